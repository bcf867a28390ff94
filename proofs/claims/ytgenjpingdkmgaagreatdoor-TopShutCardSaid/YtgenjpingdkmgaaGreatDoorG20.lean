/- Contracts of functions that this seat's law calls. No condition. -/
import Derived.Shelf.Bytes.SlCountOne
import Derived.Shelf.Bytes.SlIndexAt
import Derived.Defers
import Derived.Laws.Pointers
import Derived.Laws.LoneSync
import Derived.RegionTactic
import Derived.RegionCalls
import Derived.ChangeAlike
import Derived.Test.YtgenjpingdkmgaaGreatDoorG18
import Derived.Test.YtgenjpingdkmgaaGreatDoorG19
set_option maxRecDepth 100000
set_option linter.unusedSimpArgs false
set_option linter.unusedVariables false
open Go.Proofs.Tryz
namespace Go.Proofs.YtgenjpingdkmgaaGreatDoor
namespace Eng
namespace NS
def noEx (m:Msg):Bool:=m.id.data.toList == [] && (m.ref.data.toList == [] && (m.order.data.toList == [] && (m.account.data.toList == [] && (m.symbol.data.toList == [] && (m.ekind == 0 && (!m.buy && (m.qty == 0 && (m.price == 0 && m.etime == 0))))))))
def noTx (m:Msg):Bool:=m.text.data.toList == []
def mK (m:Msg):Bool :=
 if m.kind=1 then smallB m.a && (m.b == 0 && (!m.gap && (noTx m && noEx m))) else
 if m.kind=2 then saysB m.text && (m.a == 0 && (m.b == 0 && (!m.gap && noEx m))) else
 if m.kind=3 then !noTx m && saysB m.text && (m.a == 0 && (m.b == 0 && (!m.gap && noEx m))) else
 if m.kind=4 then smallB m.a && m.a != 0 && smallB m.b && (!m.gap && (noTx m && noEx m)) else
 if m.kind=5 then smallB m.a && m.a != 0 && (m.b == 0 && (noTx m && noEx m)) else
 if m.kind=6 then m.a == 0 && (m.b == 0 && (!m.gap && (noTx m && noEx m))) else
 if m.kind=7 then exB m && (m.a == 0 && (m.b == 0 && (!m.gap && noTx m))) else false
def mR (m:Msg):Bool:=smallB m.seq && m.seq != 0 && whenB m.time && mK m
theorem mright_c (m:Msg) (r:Bool) (hr:mR m=r):ACall prog 249 [] [.e (.a [.v (vI m.kind),.v (vI m.seq),.v (vI m.time),.v (vB m.copy),.v (vI m.a),.v (vI m.b),.v (vB m.gap),.v (vS m.text),.v (vS m.id),.v (vS m.ref),.v (vS m.order),.v (vS m.account),.v (vS m.symbol),.v (vI m.ekind),.v (vB m.buy),.v (vI m.qty),.v (vI m.price),.v (vI m.etime)])] (B r) []:=by
 have hch:True:=trivial;refine Ac func249 ?_
 iterate 9 (all_goals (try (repeat' (first|((fail_if_success clear hK);change AWp _ _ _ _ _ _;first|refine AWp.seq ?_|refine AWp.text (own:=nO) tG_ok (by kernel_rfl) (fun K hK=>?_)|refine AWp.draw (own:=nO) tG_ok mixed (by kernel_rfl) (by kernel_rfl) (fun K hK=>?_)|refine AWp.skip ?_|refine AWp.ret ?_|refine AWp.exit ?_|refine AWp.label ?_|refine AWp.block ?_)|(revert hK;intro hK;first|(with_reducible refine hK _ _ _ ?_;clear hK K)|(with_reducible refine hK _ _ _ ?_ ?_;(focus kernel_rfl);clear hK K)|((with_reducible change CallS _ _ _ _ _ _);(first|refine CallS.of (small_c _) ?_|refine CallS.of_if (fun _=>small_c _) ?_|refine CallS.of_if (fun _=>mwhen_c _) ?_|refine CallS.of (says_c _) ?_|refine CallS.of_if (fun _=>says_c _) ?_|refine CallS.of (ex_c m _ rfl) ?_))|(with_reducible refine And.intro ?_ ?_)|(simp (disch:=omega) only[↓reduceIte,Zo,backT,pos,idsB,idsC,nodup,live,makeSliceE,viewE,viewFE,appendUE,appendFE,capFE,copyE,copySrc,clearE,guardB,isNilOp,nilS,withTy,splice,lenE,appendE,sliceE,boundE,indexAddrE,indexE,buildE,fillE,buildSliceE,partsE,builtinE,minE,minI,convE,convHE,appendNE,capE,D.x,id_eq,eq_self,if_true,if_false,ne_eq,implies_true,Nat.reduceAdd,Nat.reduceMul,Nat.reduceSub,Nat.reduceEqDiff,Nat.reduceLT,Nat.reduceLeDiff,reduceCtorEq,Zp,forall_const,Nat.reduceBEq,Int.reduceEq,Int.reduceToNat,hch,bne_self_eq_false,true_and,tl2,tl3,tl4,tl5,tl9,tl46,tl289])|(first|omega|(intro hq;(try simp only[Zf,ne_eq,Bool.not_not,Bool.and_true]at hq);first|omega|assumption|(simp_all;done))|(simp_all;done))|(intro (bn:Bool) hbn)))));all_goals (try (refine Cb ?_ ?_<;>intro hc<;>(try exact ⟨⟩)));all_goals (try (exfalso;omega)))
 all_goals (change Fin _ _ _ _ _ _;simp only[fe_all,id_eq,Nat.reduceLeDiff,↓reduceIte,Zx,Nat.reduceEqDiff,Nat.reduceAdd,if_true,if_false,reduceCtorEq,eq_self,Nat.reduceBEq,results249,tl2,tl3,tl4,tl5,tl9,tl46,tl289];refine ⟨[],[],[],by kernel_rfl,?_,?_⟩<;>(simp (disch:=omega) only[↓reduceIte,Zx,Nat.reduceEqDiff,Nat.reduceAdd,if_true,if_false,reduceCtorEq,eq_self,Nat.reduceBEq,Zp,forall_const,Nat.reduceBEq,Int.reduceEq,Int.reduceToNat,hch,bne_self_eq_false,tl2,tl3,tl4,tl5,tl9,tl46,tl289];try omega))
 all_goals (subst hr)
 .unfold mR;rcases hc with (h|h)|h<;>simp[h]
 all_goals (unfold mR mK noTx;simp_all[noEx])
end NS
theorem sz7:ByteArray.size ⟨#[65,48,49,50,52,53,56]⟩=7:=rfl
def s8:ByteArray:=⟨#[56]⟩
noncomputable def msFl (x:Exe):List Fld:=[((35:Int),s8)]++[((34:Int),strN 1)]++[((52:Int),strN 0)]++exFl x
noncomputable def mputS (x:Exe):List UInt8×Int:=if (putF (msFl x)).2=0 then ((putF (msFl x)).1,0) else ([],1)
theorem exFl_len (x:Exe):(exFl x).length<=10:=by
 unfold exFl
 split<;>simp
abbrev repC (x:Exe):List C:=[.v (vI 7),.v (vI 1),.v (vI 0),.v (vB false),.v (vI 0),.v (vI 0),.v (vB false),.v (vS ⟨#[]⟩),.v (vS x.id),.v (vS x.ref),.v (vS x.ord),.v (vS x.acc),.v (vS x.sym),.v (vI x.kind),.v (vB x.buy),.v (vI x.qty),.v (vI x.price),.v (vI x.time)]
theorem rep_right (x:Exe) (h:exB x=true):NS.mR { exM x with kind:=7,seq:=1 }=true:=by
 have e:NS.exB { exM x with kind:=7,seq:=1 }=true:=h;unfold NS.mR NS.mK;rw[if_neg (show ¬(7:Int)=1 by decide),if_neg (show ¬(7:Int)=2 by decide),if_neg (show ¬(7:Int)=3 by decide),if_neg (show ¬(7:Int)=4 by decide),if_neg (show ¬(7:Int)=5 by decide),if_neg (show ¬(7:Int)=6 by decide),if_pos rfl,e];rfl
def qFD1:=PLift.up (An @Zc @sz7)
theorem mput_c (x:Exe) (h:exB x=true) (r:List UInt8×Int) (hr:mputS x=r):ACall prog 203 [] [.e (.a (repC x))] (.t [.c (.v (.s 1 (byR r.1))),.c (.v (vI r.2))]) []:=by
 have hri:ACall prog 249 [] [.e (.a (repC x))] (B true) []:=NS.mright_c { exM x with kind:=7,seq:=1 } true (rep_right x h);have hxl:=exFl_len x;obtain ⟨a1,e1⟩:∃a,([]:List Fld)++[((35:Int),s8)]=a:=⟨_,rfl⟩
 have n1:a1.length=1:=by rw[<-e1];rfl
 have c1:=Zq [] a1 35 s8 e1 (by decide);obtain ⟨a2,e2⟩:∃a,a1++[((34:Int),strN 1)]=a:=⟨_,rfl⟩
 have n2:a2.length=a1.length+1:=by rw[<-e2];simp
 have c2:=Z1 a1 a2 34 1 e2 (by omega);obtain ⟨a3,e3⟩:∃a,a2++[((52:Int),strN 0)]=a:=⟨_,rfl⟩
 have n3:a3.length=a2.length+1:=by rw[<-e3];simp
 have c3:=Z1 a2 a3 52 0 e3 (by omega);have c4:=mexec_c a3 x (by omega);have ef:msFl x=a3++exFl x:=by rw[<-e3,<-e2,<-e1];rfl
 have hl:(a3++exFl x).length<=100:=by rw[List.length_append];omega
 have hput:=fput_c (a3++exFl x) hl _ rfl;unfold mputS at hr;rw[ef]at hr;generalize a3++exFl x=L at hr c4 hput;obtain ⟨⟨bs,e⟩,hP⟩:∃y,putF L=y:=⟨_,rfl⟩
 rw[hP]at hr hput;dsimp only at hr hput;clear ef hl e1 e2 e3;refine Ac func203 ?_;refine Wk qFD1.1 (An @hri (An @c1 (An @c2 (An @c3 (An @c4 @hput))))) ?_;refine Cb ?_ ?_<;>intro hc<;>(try exact ⟨⟩)
 .contradiction
 ·(repeat (first|refine AWp.seq ?_|refine AWp.block ?_|refine AWp.skip ?_));(first|refine AWp.text (own:=nO) tG_ok (by kernel_rfl) (fun K hK=>?_)|refine AWp.draw (own:=nO) tG_ok mixed (by kernel_rfl) (by kernel_rfl) (fun K hK=>?_));(repeat' (revert hK;intro hK;first|(with_reducible refine hK _ _ _ ?_;clear hK K)|(with_reducible refine hK _ _ _ ?_ ?_;(focus kernel_rfl);clear hK K)|((with_reducible change CallS _ _ _ _ _ _);(first|refine CallS.of hri ?_|refine CallS.of c1 ?_|refine CallS.of c2 ?_|refine CallS.of c3 ?_|refine CallS.of c4 ?_|refine CallS.of hput ?_))|(with_reducible refine And.intro ?_ ?_)|(simp (disch:=omega) only[↓reduceIte,Zo,backT,pos,idsB,idsC,nodup,live,makeSliceE,viewE,viewFE,appendUE,appendFE,capFE,copyE,copySrc,clearE,guardB,isNilOp,nilS,withTy,splice,lenE,appendE,sliceE,boundE,indexAddrE,indexE,buildE,fillE,buildSliceE,partsE,builtinE,minE,minI,convE,convHE,appendNE,capE,D.x,id_eq,eq_self,if_true,if_false,ne_eq,implies_true,Nat.reduceAdd,Nat.reduceMul,Nat.reduceSub,Nat.reduceEqDiff,Nat.reduceLT,Nat.reduceLeDiff,reduceCtorEq,Zc,sz7,Zp,forall_const,Nat.reduceBEq,Int.reduceEq,Int.reduceToNat,bne_self_eq_false,true_and,tyAll])|(first|omega|(intro hq;(try simp only[Zf,ne_eq,Bool.not_not,Bool.and_true]at hq);first|omega|assumption|(simp_all;done))|(simp_all;done))|(intro (bn:Bool) hbn)))
  refine AWp.le (st2:=mkSt [(1,.p 0 0),(4,.p 1 0)] [(0,.loc (repC x)),(1,.loc [.o 2 0]),(2,.row 2 (flR []))] 3) (by refine Le.of (τ:=[(1,384)]) (ν:=[2]) (by kernel_rfl) ?_ ?_<;>((refine Lw qFD1.1 ?_;try exact ⟨⟩);try (first|omega|rfl|exact ⟨rfl,rfl⟩))) ?_;refine Wk qFD1.1 (An @hri (An @c1 (An @c2 (An @c3 (An @c4 @hput))))) ?_;refine Cb ?_ ?_<;>intro hc<;>(try exact ⟨⟩)
  .contradiction
  .refine Wk qFD1.1 (An @hri (An @c1 (An @c2 (An @c3 (An @c4 @hput))))) ?_;refine Cb ?_ ?_<;>intro hc<;>(try exact ⟨⟩)
   .contradiction
   .refine Wk qFD1.1 (An @hri (An @c1 (An @c2 (An @c3 (An @c4 @hput))))) ?_;refine Cb ?_ ?_<;>intro hc<;>(try exact ⟨⟩)
    .contradiction
    .refine Wk qFD1.1 (An @hri (An @c1 (An @c2 (An @c3 (An @c4 @hput))))) ?_;refine Cb ?_ ?_<;>intro hc<;>(try exact ⟨⟩)
     .contradiction
     .refine Wk qFD1.1 (An @hri (An @c1 (An @c2 (An @c3 (An @c4 @hput))))) ?_;refine Cb ?_ ?_<;>intro hc<;>(try exact ⟨⟩)
      .contradiction
      .refine Wk qFD1.1 (An @hri (An @c1 (An @c2 (An @c3 (An @c4 @hput))))) ?_;refine Cb ?_ ?_<;>intro hc<;>(try exact ⟨⟩)
       .contradiction
       .refine Wk qFD1.1 (An @hri (An @c1 (An @c2 (An @c3 (An @c4 @hput))))) ?_;refine Cb ?_ ?_<;>intro hc<;>(try exact ⟨⟩)
        .refine Wk qFD1.1 (An @hri (An @c1 (An @c2 (An @c3 (An @c4 @hput))))) ?_;refine Cb ?_ ?_<;>intro hc<;>(try exact ⟨⟩)
         .rw[if_neg hc]at hr;subst hr;refine Wk qFD1.1 (An @hri (An @c1 (An @c2 (An @c3 (An @c4 @hput))))) ?_;refine Fn @results203 qFD1.1 ?_;try exact ⟨⟩
         .rw[if_pos hc]at hr;subst hr;refine Wk qFD1.1 (An @hri (An @c1 (An @c2 (An @c3 (An @c4 @hput))))) ?_;refine Fn @results203 qFD1.1 ?_;try exact ⟨⟩
        .contradiction
theorem getD_by (l:List UInt8) (i:Nat):(l.map fun b=>[V.x (.int .u8 (b.toNat:Int))]).getD i [V.x (.int .u8 0)]=[V.x (.int .u8 ((l.getD i 0).toNat:Int))]:=by
 simp only[List.getD_eq_getElem?_getD,List.getElem?_map];cases l[i]?<;>rfl
abbrev byD (l:List UInt8):D:=.e (.c (.v (.s 1 (byR l))))
abbrev u8D (c:UInt8):D:=.e (.c (.v (.x (.int .u8 (c.toNat:Int)))))
theorem by_of (l:List UInt8):Lib.bytesOf (bytI l)=l:=by
 unfold Lib.bytesOf bytI;rw[List.map_map]
 conv=>rhs;rw[<-List.map_id l]
 apply List.map_congr_left;intro b _;show UInt8.ofNat ((b.toNat:Int)).toNat=b;rw[Int.toNat_natCast,UInt8.ofNat_toNat]
theorem u8_back (c:UInt8):(((c.toNat:Nat):Int).toNat).toUInt8=c:=by
 rw[Int.toNat_natCast];exact UInt8.ofNat_toNat
theorem rep_by {w:World} {ow:Nat->Prop} {ρ:Nat->Option Pl} {l:List UInt8} {u:Value} (h:RepD w ow ρ (byD l) u):∃a n c,u=.slice a n c/\(bytI l).length=n/\((∃ad,a=some ad/\∀i,i<n->w.cell? (ad.add i)=some (.int .u8 ((bytI l).getD i 0)))\/(a=none/\l=[])):=by
 have h:RepV w ow (.s 1 (byR l)) u:=h
 cases h with
 | s _ _ a n c g hn hk hz hcap hc hr =>
  refine ⟨a,n,c,rfl,by rw[hn,bytI,List.length_map,by_len],?_⟩
  cases a with
  | none=>exact .inr ⟨rfl,by simpa using hz rfl⟩
  | some ad =>
   refine .inl ⟨ad,rfl,fun i hi=>?_⟩;have hil:i<l.length:=by rw[hn,by_len]at hi;exact hi
   have e1:(byR l)[i]?=some [V.x (.int .u8 ((l[i].toNat:Nat):Int))]:=by rw[List.getElem?_map,List.getElem?_eq_getElem hil];rfl
   have h1:=(hc ad rfl i _ 0 _ e1 rfl).1;have h2:=hr i _ 0 _ e1 rfl;rw[Nat.mul_one,Nat.add_zero]at h1;obtain ⟨e2,_⟩:=rep_x (show RepD w ow ρ (.e (.c (.v (.x _)))) _ from h2);rw[h1,e2,bytI,List.getD_eq_getElem?_getD,List.getElem?_map,List.getElem?_eq_getElem hil];rfl
theorem ct_x (l:List UInt8) (c:UInt8):XCall prog 315 [] [byD l,u8D c] (I (l.count c)) []:=by
 intro own0 w ρ vs hm ha
 match vs,ha with
 | [a,b],⟨h1,h2,_⟩ =>
  obtain ⟨p,n,k,rfl,hn,hx⟩:=rep_by h1;obtain ⟨rfl,_⟩:=rep_x h2;refine ⟨.int .i64 (l.count c),ρ,?_,Sub.refl _,rep_x_mk rfl,hm⟩;show (callFunc 315 #[.slice p n k,.int .u8 (c.toNat:Int)]).run prog w=_;rw[run_callFunc_extern func315 (by kernel_rfl) (by kernel_rfl) (by kernel_rfl) (e:=Extern.BytealgCount.count) (by kernel_rfl)];rcases hx with ⟨ad,rfl,hx⟩|⟨rfl,rfl⟩
  .rw[Lib.run_countAt w ad n k (bytI l) hn hx,by_of,u8_back];rfl
  .rw[Lib.run_countNil];rfl
theorem ixb_x (l:List UInt8) (c:UInt8):XCall prog 244 [] [byD l,u8D c] (I (Lib.indexByte l c)) []:=by
 intro own0 w ρ vs hm ha
 match vs,ha with
 | [a,b],⟨h1,h2,_⟩ =>
  obtain ⟨p,n,k,rfl,hn,hx⟩:=rep_by h1;obtain ⟨rfl,_⟩:=rep_x h2;refine ⟨.int .i64 (Lib.indexByte l c),ρ,?_,Sub.refl _,rep_x_mk rfl,hm⟩;show (callFunc 244 #[.slice p n k,.int .u8 (c.toNat:Int)]).run prog w=_;rw[run_callFunc_extern func244 (by kernel_rfl) (by kernel_rfl) (by kernel_rfl) (e:=Extern.BytealgIndexByte.indexByte) (by kernel_rfl)];rcases hx with ⟨ad,rfl,hx⟩|⟨rfl,rfl⟩
  .rw[Lib.run_indexByteAt w ad n k (bytI l) hn hx,by_of,u8_back];rfl
  .rw[Lib.run_indexByteNil];rfl
def qRP11:=PLift.up (An @getD_by @by_len)
theorem ixb_c (l:List UInt8) (c:UInt8):ACall prog 194 [] [byD l,u8D c] (I (Lib.indexByte l c)) []:=by
 refine Ac func194 ?_;refine Wk qRP11.1 (An @ct_x @ixb_x) ?_;refine Fn @results194 qRP11.1 ?_;try exact ⟨⟩
def qRP12:=PLift.up (An @ct_x (An @ixb_x @ixb_c))
theorem count_c (l:List UInt8) (c:UInt8):ACall prog 288 [] [byD l,byD [c]] (I (l.count c)) []:=by
 refine Ac func288 ?_;refine Wk qRP11.1 qRP12.1 ?_;refine Cb ?_ ?_<;>intro hc<;>(try exact ⟨⟩)
 .contradiction
 .refine Wk qRP11.1 qRP12.1 ?_;refine Cb ?_ ?_<;>intro hc<;>(try exact ⟨⟩)
  .refine Wk qRP11.1 qRP12.1 ?_;refine Fn @results288 qRP11.1 ?_;try exact ⟨⟩
  .contradiction
theorem index_c (l:List UInt8) (c:UInt8):ACall prog 289 [] [byD l,byD [c]] (I (Lib.indexByte l c)) []:=by
 refine Ac func289 ?_;refine Wk qRP11.1 qRP12.1 ?_;refine Cb ?_ ?_<;>intro hc<;>(try exact ⟨⟩)
 .contradiction
 .refine Wk qRP11.1 qRP12.1 ?_;refine Cb ?_ ?_<;>intro hc<;>(try exact ⟨⟩)
  .refine Wk qRP11.1 qRP12.1 ?_;refine Fn @results289 qRP11.1 ?_;try exact ⟨⟩
  .contradiction
def rpB (b:UInt8):UInt8:=if b=1 then 2 else b
def rpL (l:List UInt8):List UInt8:=l.map rpB
theorem index_spec (c:UInt8):∀l:List UInt8,0<l.count c->∃q:Nat,Lib.indexByte l c=q/\q<l.length/\(l.take q).count c=0/\l.getD q 0=c
 | [],h=>by simp at h
 | b::l,h=>by
  by_cases hb:b=c
  .subst hb;exact ⟨0,by simp[Lib.indexByte],by simp,by simp,by simp⟩
  .have h2:0<l.count c:=by rw[List.count_cons_of_ne hb]at h;exact h
   obtain ⟨q,h3,h4,h5,h6⟩:=index_spec c l h2;refine ⟨q+1,?_,by simpa using h4,?_,by simpa using h6⟩
   .simp only[Lib.indexByte,h3];rw[if_neg (by simpa using hb),if_neg (by simp)];rfl
   .rw[List.take_succ_cons,List.count_cons_of_ne hb];exact h5
theorem rp_none:∀ {l:List UInt8},l.count 1=0->rpL l=l
 | [],_=>rfl
 | b::l,h=>by
  have hb:b≠1:=fun e=>by subst e;simp at h
  rw[List.count_cons_of_ne hb]at h;show rpB b::rpL l=_;rw[rp_none h,rpB,if_neg hb]
def rpT (l:List UInt8) (p:Nat):List UInt8:=rpL (l.take p)++List.replicate (l.length - p) 0
theorem rpT_len (l:List UInt8) (p:Nat) (h:p<=l.length):(rpT l p).length=l.length:=by simp[rpT,rpL];omega
theorem rpT_0 (l:List UInt8):rpT l 0=List.replicate l.length 0:=by simp[rpT,rpL]
theorem rpT_all (l:List UInt8):rpT l l.length=rpL l:=by simp[rpT]
theorem put_by (a b:List UInt8) (i:Nat):putRows (byR a) i (byR b)=byR (splice a i b):=by
 simp[putRows,splice,List.map_take,List.map_drop]
theorem rpT_put (l:List UInt8) (p q:Nat) (xs:List UInt8) (h:p+q<=l.length) (hx:xs=rpL ((l.drop p).take q)):splice (rpT l p) p xs=rpT l (p+q):=by
 have hq:xs.length=q:=by rw[hx];simp[rpL];omega
 have hp:(rpL (l.take p)).length=p:=by simp[rpL];omega
 have e1:l.take (p+q)=l.take p++(l.drop p).take q:=List.take_add
 have e2:List.drop (p+xs.length) (rpL (l.take p)++List.replicate (l.length - p) (0:UInt8))=List.replicate (l.length - (p+q)) 0:=by
  rw[<-hp,List.drop_append,List.drop_replicate,hp,hq];rw[List.drop_of_length_le (by omega),List.nil_append];congr 1;omega
 unfold splice rpT;rw[List.take_left' hp,e2,e1,hx];simp[rpL]
theorem by0 (l:List UInt8):byR (rpT l 0)=List.replicate l.length [V.x (.int .u8 0)]:=by rw[rpT_0];simp
theorem zRP24 {R G:Prop} (k:R) (h:Box R->G:=by
 intro k;simp (disch:=omega) only[↓reduceIte,Zo,backT,pos,idsB,idsC,nodup,live,makeSliceE,viewE,viewFE,appendUE,appendFE,capFE,copyE,copySrc,clearE,guardB,isNilOp,nilS,withTy,splice,lenE,appendE,sliceE,boundE,indexAddrE,indexE,buildE,fillE,buildSliceE,partsE,builtinE,minE,minI,convE,convHE,appendNE,capE,D.x,id_eq,eq_self,if_true,if_false,ne_eq,implies_true,Nat.reduceAdd,Nat.reduceMul,Nat.reduceSub,Nat.reduceEqDiff,Nat.reduceLT,Nat.reduceLeDiff,reduceCtorEq,nO_eq,oF_eq,Int.reduceToNat,bne_self_eq_false,getD_by,by_len,hdrop,hcut,htake,Zp,forall_const,Nat.reduceBEq,Int.reduceEq,true_and,tl2,tl3,tl4,tl5,tl24]
 all_goals exact k.out):G:=h ⟨k⟩
theorem zRP23 {R G:Prop} (k:R) (h:Box R->G:=by
 intro k;simp (disch:=omega) only[↓reduceIte,Zx,Nat.reduceEqDiff,Nat.reduceAdd,if_true,if_false,reduceCtorEq,eq_self,Nat.reduceBEq,nO_eq,oF_eq,Int.reduceToNat,bne_self_eq_false,getD_by,by_len,hdrop,hcut,htake,Zp,forall_const,Nat.reduceBEq,Int.reduceEq,tl2,tl3,tl4,tl5,tl24]
 all_goals exact k.out):G:=h ⟨k⟩
theorem zRP22 {R G:Prop} (k:R) (h:Box R->G:=by
 intro k;change Fin _ _ _ _ _ _;simp only[fe_all,id_eq,Nat.reduceLeDiff,↓reduceIte,Zx,Nat.reduceEqDiff,Nat.reduceAdd,if_true,if_false,reduceCtorEq,eq_self,Nat.reduceBEq,results253,results204,tl2,tl3,tl4,tl5,tl24]
 all_goals exact k.out):G:=h ⟨k⟩
theorem zRP21 {R G:Prop} (k:R) (h:Box R->G:=by
 intro k
 repeat' (first|((fail_if_success clear hK);change AWp _ _ _ _ _ _;first|refine AWp.seq ?_|refine AWp.text (own:=(oF [0])) tG_ok (by kernel_rfl) (fun K hK=>?_)|refine AWp.draw (own:=(oF [0])) tG_ok mixed (by kernel_rfl) (by kernel_rfl) (fun K hK=>?_)|refine AWp.skip ?_|refine AWp.ret ?_|refine AWp.exit ?_|refine AWp.label ?_|refine AWp.block ?_)|(revert hK;intro hK;first|(with_reducible refine hK _ _ _ ?_;clear hK K)|(with_reducible refine hK _ _ _ ?_ ?_;(focus kernel_rfl);clear hK K)|((with_reducible change CallS _ _ _ _ _ _);(first|refine CallS.of hcount ?_|refine CallS.of hidx ?_|refine CallS.of hrep ?_))|(with_reducible refine And.intro ?_ ?_)|(simp (disch:=omega) only[↓reduceIte,Zo,backT,pos,idsB,idsC,nodup,live,makeSliceE,viewE,viewFE,appendUE,appendFE,capFE,copyE,copySrc,clearE,guardB,isNilOp,nilS,withTy,splice,lenE,appendE,sliceE,boundE,indexAddrE,indexE,buildE,fillE,buildSliceE,partsE,builtinE,minE,minI,convE,convHE,appendNE,capE,D.x,id_eq,eq_self,if_true,if_false,ne_eq,implies_true,Nat.reduceAdd,Nat.reduceMul,Nat.reduceSub,Nat.reduceEqDiff,Nat.reduceLT,Nat.reduceLeDiff,reduceCtorEq,nO_eq,oF_eq,Int.reduceToNat,bne_self_eq_false,getD_by,by_len,hdrop,hcut,htake,Zp,forall_const,Nat.reduceBEq,Int.reduceEq,true_and,tl2,tl3,tl4,tl5,tl24])|(first|omega|(simp[putRows,splice];omega)|(intro hq;(try simp only[Zf,ne_eq,Bool.not_not,Bool.and_true]at hq);first|omega|assumption|(simp[putRows,splice];omega)|(simp_all;done))|(simp_all;done))|(intro (bn:Bool) hbn)))
 all_goals exact k.out):G:=h ⟨k⟩
theorem replace_c (l:List UInt8) (hl:l.length<=1000000):ACall prog 253 [] [byD l,byD [1],byD [2],I (-1)] (byD (rpL l)) []:=by
 have hcount:=count_c l 1;have hdrop:True:=trivial;have htake:True:=trivial;have hidx:True:=trivial;have hrep:True:=trivial;obtain ⟨m,hm⟩:∃m,l.count 1=m:=⟨_,rfl⟩
 rw[hm]at hcount;have hml:m<=l.length:=by rw[<-hm];exact List.count_le_length
 have hcut:((l.length:Int)+(m:Int)*(1 - 1)).toNat=l.length:=by omega
 refine Ac func253 ?_;refine zRP21 ?_;refine Cb ?_ ?_<;>intro hc<;>(try exact ⟨⟩)
 .refine zRP21 ?_;refine Cb ?_ ?_<;>intro hc<;>(try exact ⟨⟩)
  .have e:rpL l=l:=rp_none (by omega);rw[e];refine zRP21 ?_;refine zRP22 ?_;refine ⟨[],[],[],by kernel_rfl,?_,?_⟩<;>((first|exact zRP23 trivial|refine zRP23 ?_);try omega)
  .refine zRP21 ?_;refine Cb ?_ ?_<;>intro hc<;>(try exact ⟨⟩)
   .refine zRP21 ?_;refine Cb ?_ ?_<;>intro hc<;>(try exact ⟨⟩)
    .refine zRP21 ?_
     refine AWp.loop (fun s:Nat×Nat=>mkSt [(0,byD l),(1,byD [1]),(2,byD [2]),(3,I m),(10,.e (.c (.o 0 l.length))),(11,I s.2),(12,I s.2),(48,I m),(49,I s.1)] [(0,.row 1 (byR (rpT l s.2)))] 1)
      (fun s=>s.1<=m/\s.2<=l.length/\(l.drop s.2).count 1+s.1=m) (fun s=>m - s.1) (0,0) ⟨Nat.zero_le _,Nat.zero_le _,by simpa using hm⟩ (by refine Le.of (τ:=[(0,1856)]) (ν:=[]) (by kernel_rfl) ?_ ?_<;>((first|exact zRP23 trivial|refine zRP23 ?_);try (first|omega|rfl|exact by0 l))) fun s hs=>?_
     obtain ⟨k,p⟩:=s;obtain ⟨h1,h2,h3⟩:=hs;dsimp only at h1 h2 h3 ⊢;refine zRP21 ?_;refine Cb ?_ ?_<;>intro hc<;>(try exact ⟨⟩)
     .obtain ⟨q,hq1,hq2,hq3,hq4⟩:=index_spec 1 (l.drop p) (by omega);have hidx:=index_c (l.drop p) 1;rw[hq1]at hidx;rw[List.length_drop]at hq2;have hdrop:List.drop p (l.map fun b=>[V.x (.int .u8 (b.toNat:Int))])=byR (l.drop p):=List.map_drop.symm;have htake:=rpT_len l p h2
      have hcq:List.drop p (List.take (p+q) (byR l))=byR ((l.drop p).take q):=by
       rw[List.drop_take,<-List.map_drop,<-List.map_take];congr 2;omega
      have hlq:min (l.length - p) (byR ((l.drop p).take q)).length=q:=by simp;omega
      have htq:List.take q (byR ((l.drop p).take q))=byR ((l.drop p).take q):=List.take_of_length_le (by simp;omega);have hnq:((p:Int)+(q:Int)).toNat=p+q:=by omega
      have hp1:putRows (byR (rpT l p)) p (byR ((l.drop p).take q))=byR (rpT l (p+q)):=by
       rw[put_by,rpT_put l p q _ (by omega) (rp_none hq3).symm]
      have hm1:min (l.length - (p+q)) 1=1:=by omega
      have hk1:List.take 1 [[V.x (.int .u8 ((UInt8.toNat 2:Nat):Int))]]=byR [2]:=rfl
      have e1:(l.drop (p+q)).take 1=[1]:=by
       have h5:p+q<l.length:=by omega
       have h6:l[p+q]=1:=by
        rw[List.getD_eq_getElem?_getD,List.getElem?_drop,List.getElem?_eq_getElem h5]at hq4;exact hq4
       rw[List.drop_eq_getElem_cons h5,h6];rfl
      have hp2:putRows (byR (rpT l (p+q))) (p+q) (byR [2])=byR (rpT l (p+q+1)):=by
       rw[put_by,rpT_put l (p+q) 1 _ (by omega) (by rw[e1];rfl)]
      have hcn:List.count 1 (List.drop (p+q+1) l)+1=List.count 1 (List.drop p l):=by
       have e2:l.drop p=(l.drop p).take q++((l.drop (p+q)).take 1++l.drop (p+q+1)):=by
        rw[show l.drop (p+q+1)=(l.drop (p+q)).drop 1 by rw[List.drop_drop],List.take_append_drop,<-List.drop_drop,List.take_append_drop]
       rw[e2,List.count_append,List.count_append,hq3,e1];simp;omega
      refine zRP21 ?_;simp only[hcq,hlq,htq,hnq,hp1,hm1,hk1,hp2];refine Za (k+1,p+q+1) ⟨?_,?_,?_⟩ ?_ (by refine Le.of (τ:=[]) (ν:=[]) (by kernel_rfl) ?_ ?_<;>((first|exact zRP23 trivial|refine zRP23 ?_);try (first|omega|rfl)))
      .dsimp only;omega
      .dsimp only;omega
      .dsimp only;omega
      .dsimp only;omega
     .have hdrop:List.drop p (l.map fun b=>[V.x (.int .u8 (b.toNat:Int))])=byR (l.drop p):=List.map_drop.symm;have htake:=rpT_len l p h2;refine AWp.exit ?_;change AWp _ _ _ _ _ _;have hlq:min (l.length - p) (List.drop p l).length=l.length - p:=by simp
      have htq:List.take (l.length - p) (byR (l.drop p))=byR (l.drop p):=List.take_of_length_le (by simp);have hnq:((p:Int)+((l.length - p:Nat):Int))=(l.length:Int):=by omega
      have hp1:putRows (byR (rpT l p)) p (byR (l.drop p))=byR (rpL l):=by
       rw[put_by,rpT_put l p (l.length - p) _ (by omega) (by rw[List.take_of_length_le (by simp)];exact (rp_none (by omega)).symm),show p+(l.length - p)=l.length by omega,rpT_all]
      (repeat (first|refine AWp.seq ?_|refine AWp.block ?_|refine AWp.skip ?_));(first|refine AWp.text (own:=(oF [0])) tG_ok (by kernel_rfl) (fun K hK=>?_)|refine AWp.draw (own:=(oF [0])) tG_ok mixed (by kernel_rfl) (by kernel_rfl) (fun K hK=>?_));(repeat' (revert hK;intro hK;first|(with_reducible refine hK _ _ _ ?_;clear hK K)|(with_reducible refine hK _ _ _ ?_ ?_;(focus kernel_rfl);clear hK K)|((with_reducible change CallS _ _ _ _ _ _);(first|refine CallS.of hcount ?_|refine CallS.of hidx ?_|refine CallS.of hrep ?_))|(with_reducible refine And.intro ?_ ?_)|((first|exact zRP24 trivial|refine zRP24 ?_))|(first|omega|(simp[putRows,splice];omega)|(intro hq;(try simp only[Zf,ne_eq,Bool.not_not,Bool.and_true]at hq);first|omega|assumption|(simp[putRows,splice];omega)|(simp_all;done))|(simp_all;done))|(intro (bn:Bool) hbn)))
      change AWp _ _ _ _ _ _;have hrl:l.length<=(rpL l).length:=by simp[rpL]
      simp only[hlq,htq,hnq,hp1]
      (repeat (first|refine AWp.seq ?_|refine AWp.block ?_|refine AWp.skip ?_));(first|refine AWp.text (own:=nO) tG_ok (by kernel_rfl) (fun K hK=>?_)|refine AWp.draw (own:=nO) tG_ok mixed (by kernel_rfl) (by kernel_rfl) (fun K hK=>?_));(repeat' (revert hK;intro hK;first|(with_reducible refine hK _ _ _ ?_;clear hK K)|(with_reducible refine hK _ _ _ ?_ ?_;(focus kernel_rfl);clear hK K)|((with_reducible change CallS _ _ _ _ _ _);(first|refine CallS.of hcount ?_|refine CallS.of hidx ?_|refine CallS.of hrep ?_))|(with_reducible refine And.intro ?_ ?_)|((first|exact zRP24 trivial|refine zRP24 ?_))|(first|omega|(simp[putRows,splice];omega)|(intro hq;(try simp only[Zf,ne_eq,Bool.not_not,Bool.and_true]at hq);first|omega|assumption|(simp[putRows,splice];omega)|(simp_all;done))|(simp_all;done))|(intro (bn:Bool) hbn)))
      have htl:List.take l.length (byR (rpL l))=byR (rpL l):=List.take_of_length_le (by simp[rpL]);simp only[htl];refine zRP21 ?_;refine zRP22 ?_;refine ⟨[],[],[],by kernel_rfl,?_,?_⟩<;>((first|exact zRP23 trivial|refine zRP23 ?_);try omega)
    .contradiction
   .omega
 .contradiction
theorem replaceAll_c (l:List UInt8) (hl:l.length<=1000000):ACall prog 204 [] [byD l,byD [1],byD [2]] (byD (rpL l)) []:=by
 have hcount:True:=trivial;have hdrop:True:=trivial;have hcut:True:=trivial;have htake:True:=trivial;have hidx:True:=trivial;have hrep:=replace_c l hl;refine Ac func204 ?_;refine zRP21 ?_;refine zRP22 ?_;refine ⟨[],[],[],by kernel_rfl,?_,?_⟩<;>((first|exact zRP23 trivial|refine zRP23 ?_);try omega)
theorem str_by (l:List UInt8):strRows (byR l)=⟨l.toArray⟩:=by
 unfold strRows;congr 2;rw[List.map_map];refine (List.map_congr_left fun b _=>?_).trans (List.map_id l);show UInt8.ofNat ((b.toNat:Int).toNat)=b;rw[Int.toNat_natCast];exact UInt8.ofNat_toNat
theorem are_by (l:List UInt8):areBytes (byR l)=True:=eq_true fun r hr=>by
 obtain ⟨b,_,rfl⟩:=List.mem_map.1 hr;exact trivial
theorem mputS_len (x:Exe):(mputS x).1.length<=1000000:=by
 have h1:=exFl_len x;unfold mputS
 split
 .show (putF (msFl x)).1.length<=_;unfold putF
  split
  .rename_i h;have:=encL_len _ h.2;show (encL (msFl x)).length<=_;omega
  .exact Nat.zero_le _
 .exact Nat.zero_le _
noncomputable def repS (x:Exe):ByteArray:=⟨(rpL (mputS x).1).toArray⟩
def qKR1:=PLift.up (An @str_by @are_by)
theorem report_c (x:Exe) (h:exB x=true):ACall prog 151 [] [xD x] (StD (repS x)) []:=by
 have hput:=mput_c x h _ rfl;have hrep:=replaceAll_c (mputS x).1 (mputS_len x);refine Ac func151 ?_;refine Wk qKR1.1 (An @hput @hrep) ?_;refine Fn @results151 qKR1.1 ?_;try exact ⟨⟩
 rfl
def flS (b:Bool):ByteArray:=if b then s1 else s0
noncomputable def fieldsK (a:Ask):List Fld :=
 if a.kind=1 then [(1,strN a.kind),(2,strN a.ven),(3,a.o.id),(4,a.o.acc),(5,a.o.sym),(6,flS a.o.buy),(7,strN a.o.qty),(8,strN a.o.price)]
 else if a.kind=2 then [(1,strN a.kind),(2,strN a.ven),(3,a.id),(4,a.o.id),(7,strN a.o.qty),(8,strN a.o.price)]
 else if a.kind=3 then [(1,strN a.kind),(2,strN a.ven),(9,repS a.x)]
 else if a.kind=4 then [(1,strN a.kind),(10,strN a.now)]
 else if a.kind=5 then [(1,strN a.kind),(11,flS a.on)]
 else if a.kind=6 then [(1,strN a.kind),(2,strN a.ven),(11,flS a.on)]
 else if a.kind=8 then [(1,strN a.kind),(4,a.l.acc),(5,a.l.sym),(12,strN a.l.long),(13,strN a.l.short),(7,strN a.l.qty),(8,strN a.l.value)]
 else [(1,strN a.kind),(2,strN a.ven)]
def qKF1:=PLift.up (An @number_c (An @word_c @flag_c))
theorem fields_c (a:Ask) (h:a.kind=3->exB a.x=true) (r:List Fld) (hr:fieldsK a=r):ACall prog 91 [] [aD a] (flsD r) []:=by
 have h3:a.kind=3->ACall prog 151 [] [xD a.x] (StD (repS a.x)) []:=fun e=>report_c a.x (h e);unfold fieldsK at hr;refine Ac func91 ?_;refine Wk @Zc (An @h3 qKF1.1) ?_;refine Cb ?_ ?_<;>intro hc<;>(try exact ⟨⟩)
 .rw[if_pos hc]at hr;subst hr;refine Wk @Zc (An @h3 qKF1.1) ?_;refine Fn @results91 @Zc ?_;try exact ⟨⟩
  exact ⟨rfl,by simp⟩
 .rw[if_neg hc]at hr;refine Wk @Zc (An @h3 qKF1.1) ?_;refine Cb ?_ ?_<;>intro hc<;>(try exact ⟨⟩)
  .rw[if_pos hc]at hr;subst hr;refine Wk @Zc (An @h3 qKF1.1) ?_;refine Fn @results91 @Zc ?_;try exact ⟨⟩
   exact ⟨rfl,by simp⟩
  .rw[if_neg hc]at hr;refine Wk @Zc (An @h3 qKF1.1) ?_;refine Cb ?_ ?_<;>intro hc<;>(try exact ⟨⟩)
   .rw[if_pos hc]at hr;have h3:=h3 hc;subst hr;refine Wk @Zc (An @h3 qKF1.1) ?_;refine Fn @results91 @Zc ?_;try exact ⟨⟩
    exact ⟨rfl,by simp⟩
   .rw[if_neg hc]at hr;refine Wk @Zc (An @h3 qKF1.1) ?_;refine Cb ?_ ?_<;>intro hc<;>(try exact ⟨⟩)
    .rw[if_pos hc]at hr;subst hr;refine Wk @Zc (An @h3 qKF1.1) ?_;refine Fn @results91 @Zc ?_;try exact ⟨⟩
     exact ⟨rfl,by simp⟩
    .rw[if_neg hc]at hr;refine Wk @Zc (An @h3 qKF1.1) ?_;refine Cb ?_ ?_<;>intro hc<;>(try exact ⟨⟩)
     .rw[if_pos hc]at hr;subst hr;refine Wk @Zc (An @h3 qKF1.1) ?_;refine Fn @results91 @Zc ?_;try exact ⟨⟩
      exact ⟨rfl,by simp⟩
     .rw[if_neg hc]at hr;refine Wk @Zc (An @h3 qKF1.1) ?_;refine Cb ?_ ?_<;>intro hc<;>(try exact ⟨⟩)
      .rw[if_pos hc]at hr;subst hr;refine Wk @Zc (An @h3 qKF1.1) ?_;refine Fn @results91 @Zc ?_;try exact ⟨⟩
       exact ⟨rfl,by simp⟩
      .rw[if_neg hc]at hr;refine Wk @Zc (An @h3 qKF1.1) ?_;refine Cb ?_ ?_<;>intro hc<;>(try exact ⟨⟩)
       .rw[if_pos hc]at hr;subst hr;refine Wk @Zc (An @h3 qKF1.1) ?_;refine Fn @results91 @Zc ?_;try exact ⟨⟩
        exact ⟨rfl,by simp⟩
       .rw[if_neg hc]at hr;refine Wk @Zc (An @h3 qKF1.1) ?_;subst hr;refine Fn @results91 @Zc ?_;try exact ⟨⟩
        exact ⟨rfl,by simp⟩
theorem fieldsK_len (a:Ask):(fieldsK a).length<=10:=by
 unfold fieldsK
 split
 .simp
 .split
  .simp
  .split
   .simp
   .split
    .simp
    .split
     .simp
     .split
      .simp
      .split
       .simp
       .simp
noncomputable def putK (a:Ask):List UInt8×Int:=if mayK a=true then (if (putF (fieldsK a)).2=0 then ((putF (fieldsK a)).1,0) else ([],1)) else ([],1)
theorem may_ex {a:Ask} (h:mayK a=true) (hk:a.kind=3):exB a.x=true:=by
 unfold mayK at h;rw[if_neg (by omega),if_neg (by omega),if_pos hk,Bool.and_eq_true]at h;exact h.2
theorem kput_c (a:Ask) (r:List UInt8×Int) (hr:putK a=r):ACall prog 32 [] [aD a] (.t [.c (.v (.s 1 (byR r.1))),.c (.v (vI r.2))]) []:=by
 unfold putK at hr
 cases hm:mayK a with
 | false =>
  have hmay:=kmay_c a false hm;rw[hm,if_neg (by decide)]at hr;subst hr;refine Ac func32 ?_;refine Wk trivial @hmay ?_;refine Cb ?_ ?_<;>intro hc<;>(try exact ⟨⟩)
  .refine Wk trivial @hmay ?_;refine Fn @results32 trivial ?_;try exact ⟨⟩
  .contradiction
 | true =>
  have hmay:=kmay_c a true hm;have hf:=fields_c a (may_ex hm) _ rfl;rw[hm,if_pos rfl]at hr;have hlen:=fieldsK_len a;generalize fieldsK a=L at hf hr hlen;obtain ⟨⟨bs,e⟩,hP⟩:∃y,putF L=y:=⟨_,rfl⟩
  have hput:=fput_c L (by omega) _ hP;rw[hP]at hr;dsimp only at hr hput;refine Ac func32 ?_;refine Wk trivial (An @hmay (An @hf @hput)) ?_;refine Cb ?_ ?_<;>intro hc<;>(try exact ⟨⟩)
  .contradiction
  .refine Wk trivial (An @hmay (An @hf @hput)) ?_;refine Cb ?_ ?_<;>intro hc<;>(try exact ⟨⟩)
   .rw[if_neg hc]at hr;subst hr;refine Wk trivial (An @hmay (An @hf @hput)) ?_;refine Fn @results32 trivial ?_;try exact ⟨⟩
   .rw[if_pos (by omega)]at hr;subst hr;refine Wk trivial (An @hmay (An @hf @hput)) ?_;refine Fn @results32 trivial ?_;try exact ⟨⟩
end Eng
end Go.Proofs.YtgenjpingdkmgaaGreatDoor
namespace Go.Proofs.YtgenjpingdkmgaaGreatDoor
namespace Once
theorem disable (w:World):(callFunc 343 #[]).run prog w=.ok (.value (.tuple #[])) w:=run_call_mark0 func343 (by kernel_rfl) (by kernel_rfl) (by kernel_rfl) .disable (by kernel_rfl) w
theorem enable (w:World):(callFunc 345 #[]).run prog w=.ok (.value (.tuple #[])) w:=run_call_mark0 func345 (by kernel_rfl) (by kernel_rfl) (by kernel_rfl) .enable (by kernel_rfl) w
theorem acquire (a:Addr) (w:World):(callFunc 346 #[.pointer (some a)]).run prog w=.ok (.value (.tuple #[])) w:=run_call_marked func346 (by kernel_rfl) (by kernel_rfl) (by kernel_rfl) .acquire (by kernel_rfl) a w
theorem releaseMerge (a:Addr) (w:World):(callFunc 348 #[.pointer (some a)]).run prog w=.ok (.value (.tuple #[])) w:=run_call_marked func348 (by kernel_rfl) (by kernel_rfl) (by kernel_rfl) .releaseMerge (by kernel_rfl) a w
theorem store_deferred (a:Addr) (x:Value) (u:FrameMode) (w:World) (hc:w.cell? a=some x) (hz:w.frozen? a=false) :
 CallsD prog 322 #[.pointer (some a),.bool true] u w fun e u' w'=>u'=u/\(e=.returned (.tuple #[])/\w'=w.drew.setCell a (.int .u32 1)):=by
 have hc':w.drew.cell? a=some x:=by go_simp
 have hz':w.drew.frozen? a=false:=by go_simp
 have hst:=run_call_store (P:=prog) func339 (by kernel_rfl) (by kernel_rfl) (by kernel_rfl) (by kernel_rfl) (k:=.u32) (y:=1) hc' hz'
 go_enter_d func322,ntmps322
 go_wp2
 go_region_calls
 all_goals (go_end0;exact ⟨rfl,rfl⟩)
theorem unlock_deferred (a:Addr) (u:FrameMode) (w:World) (hc:w.cell? a=some (.int .i32 1)) (hz:w.frozen? a=false) :
 CallsD prog 321 #[.pointer (some a)] u w fun e u' w'=>u'=u/\(e=.returned (.tuple #[])/\w'=w.setCell a (.int .i32 0)):=by
 have hd:=disable;have he:=enable;have hr:=releaseMerge;have hadd:=run_call_add (P:=prog) func349 (by kernel_rfl) (by kernel_rfl) (by kernel_rfl) .i32 (by kernel_rfl) (y:=-1) (s:=0) hc hz (by simp[go_sem];rfl);have hcv:=run_convert_to_unsafe (P:=prog) (src:=428) (dst:=414) underlying428 underlying414 (by kernel_rfl) hc
 go_enter_d func321,ntmps321
 go_wp2
 go_end0
 go_wp2
 go_end0
 exact ⟨rfl,rfl⟩
theorem lock_free (a:Addr) (w:World) (hc:w.cell? a=some (.int .i32 0)) (hz:w.frozen? a=false) :
 Calls prog 320 #[.pointer (some a)] w fun e w'=>e=.returned (.tuple #[])/\w'=w.setCell a (.int .i32 1):=by
 have hd:=disable;have he:=enable;have ha:=acquire;have hcas:=run_call_cas_hit (P:=prog) func344 (by kernel_rfl) (by kernel_rfl) (by kernel_rfl) .i32 (by kernel_rfl) (y:=1) hc hz;have hc':(w.setCell a (.int .i32 1)).cell? a=some (.int .i32 1):=World.cell?_setCell_same w a _ hc;have hcv:=run_convert_to_unsafe (P:=prog) (src:=428) (dst:=414) underlying428 underlying414 (by kernel_rfl) hc'
 go_enter func320,ntmps320
 go_wp2
 first|go_end0|(simp only[Exit.inBlock,Exit.then];refine bodyPost_ret (results_none rfl _ _ _) rfl ?_)|refine bodyPost_ret (results_none rfl _ _ _) rfl ?_
 go_wp2
 go_end0
 exact ⟨rfl,rfl⟩
set_option maxHeartbeats 1600000 in
theorem slow_any (b fn:Nat) (arg:Value) (Q:World->Prop) (w:World)
 (h0:w.cell? ⟨b,0,none⟩=some (.int .u32 0)) (h1:w.cell? ⟨b,1,none⟩=some (.int .i32 0))
 (f0:w.frozen? ⟨b,0,none⟩=false) (f1:w.frozen? ⟨b,1,none⟩=false)
 (hf:Calls prog 255 #[arg] (w.setCell ⟨b,1,none⟩ (.int .i32 1)) fun e w'=>e=.returned (.tuple #[])/\Q w')
 (hq0:∀w',Q w'->w'.cell? ⟨b,0,none⟩=some (.int .u32 0)) (hq1:∀w',Q w'->w'.cell? ⟨b,1,none⟩=some (.int .i32 1))
 (hq2:∀w',Q w'->w'.frozen? ⟨b,0,none⟩=false) (hq3:∀w',Q w'->w'.frozen? ⟨b,1,none⟩=false) :
 Calls prog 292 #[.pointer (some ⟨b,0,none⟩),.func (.func 255) #[arg] #[]] w fun e w'=>e=.returned (.tuple #[]) /\
  ∃w1,Q w1/\w'=(w1.drew.setCell ⟨b,0,none⟩ (.int .u32 1)).setCell ⟨b,1,none⟩ (.int .i32 0):=by
 have hl:=run_call_load (P:=prog) func319 (by kernel_rfl) (by kernel_rfl) (by kernel_rfl) .u32 (by kernel_rfl) (w:=w.setCell ⟨b,1,none⟩ (.int .i32 1)) (a:=⟨b,0,none⟩) (x:=0) ((World.cell?_setCell_other _ ⟨b,1,none⟩ ⟨b,0,none⟩ _ (by simp)).trans h0);have hnot:∀(x:Bool) (w:World),(Op.unary .not (.bool x)).run prog w=.ok (.bool (!x)) w:=fun _ _=>rfl
 go_enter_defers func292,ntmps292
 go_wp2_with (first|(go_at_call 291;go_in)|(go_at_call 320;refine (lock_free ⟨b,1,none⟩ _ (by go_simp) (by go_simp)).mono ?_;rintro e w' ⟨rfl,rfl⟩)|(go_at_call 255;refine hf.mono ?_;rintro e w1 ⟨rfl,hQ⟩))
 go_wp2
 refine leaves_cons (f:=322) (args:=#[.pointer (some ⟨b,0,none⟩),.bool true]) (by simp) (by simp[go_sem]) ?_;refine (store_deferred ⟨b,0,none⟩ (.int .u32 0) .returning _ (hq0 _ hQ) (hq2 _ hQ)).mono ?_;rintro e u' w'' ⟨rfl,rfl,rfl⟩;refine leaves_cons (f:=321) (args:=#[.pointer (some ⟨b,1,none⟩)]) (by simp[settle]) (by simp[go_sem]) ?_;refine (unlock_deferred ⟨b,1,none⟩ _ _ ?_ (by simp[hq3 _ hQ])).mono ?_
 .refine (World.cell?_setCell_other _ ⟨b,0,none⟩ ⟨b,1,none⟩ _ (by simp)).trans ?_;rw[World.cell?_drew];exact hq1 _ hQ
 rintro e u' w'' ⟨rfl,rfl,rfl⟩;simp[Leaves,settle,results,results292];exact ⟨_,hQ,rfl⟩
end Once
end Go.Proofs.YtgenjpingdkmgaaGreatDoor
namespace Go.Proofs.YtgenjpingdkmgaaGreatDoor
namespace Eng
namespace ND
def bit1 (n:BitVec 32):BitVec 32:=if (n &&& 1#32)=1#32 then (n >>> 1) ^^^ 3988292384#32 else n >>> 1
def bits:Nat->BitVec 32->BitVec 32
 | 0,n=>n
 | k+1,n=>bit1 (bits k n)
def tab (c:BitVec 8):BitVec 32:=bits 8 (c.setWidth 32)
def upd8 (n:BitVec 32) (c:Int):BitVec 32:=(n >>> 8) ^^^ tab (n.setWidth 8 ^^^ BitVec.ofInt 8 c)
def crcF (n:BitVec 32) (xs:List Int):BitVec 32:=xs.foldl upd8 n
def crcS (xs:List Int):BitVec 32 := ~~~ (crcF 4294967295#32 xs)
theorem Yx {m:Nat} (n:BitVec m):BitVec.ofInt m (n.toNat:Int)=n:=by
 rw[show ((n.toNat:Nat):Int)=(n.toNat:Int) from rfl,BitVec.ofInt_natCast,BitVec.ofNat_toNat,BitVec.setWidth_eq]
theorem wrap_bv (n:BitVec 32):IntKind.u32.wrap ((n.toNat:Nat):Int)=(n.toNat:Int):=wrap_u32 _ (by omega) (by have:=n.isLt;omega)
theorem wrap_bv8 (n:BitVec 8):IntKind.u8.wrap ((n.toNat:Nat):Int)=(n.toNat:Int):=wrap_u8 _ (by omega) (by have:=n.isLt;omega)
theorem bv_xor (a b:BitVec 32):IntKind.u32.wrap ((BitVec.ofInt IntKind.u32.bits (a.toNat:Int) ^^^ BitVec.ofInt IntKind.u32.bits (b.toNat:Int)).toNat:Int)=((a ^^^ b).toNat:Int):=by
 have e:BitVec.ofInt 32 (a.toNat:Int) ^^^ BitVec.ofInt 32 (b.toNat:Int)=a ^^^ b:=by rw[Yx,Yx]
 exact (congrArg (fun x:BitVec 32=>IntKind.u32.wrap ((x.toNat:Nat):Int)) e).trans (wrap_bv _)
theorem bv_xorP (a:BitVec 32):IntKind.u32.wrap ((BitVec.ofInt IntKind.u32.bits (a.toNat:Int) ^^^ BitVec.ofInt IntKind.u32.bits 3988292384).toNat:Int)=((a ^^^ 3988292384#32).toNat:Int):=bv_xor a 3988292384#32
theorem bv_and1 (a:BitVec 32):IntKind.u32.wrap ((BitVec.ofInt IntKind.u32.bits (a.toNat:Int) &&& BitVec.ofInt IntKind.u32.bits 1).toNat:Int)=((a &&& 1#32).toNat:Int):=by
 have e:BitVec.ofInt 32 (a.toNat:Int) &&& BitVec.ofInt 32 1=a &&& 1#32:=by rw[Yx];rfl
 exact (congrArg (fun x:BitVec 32=>IntKind.u32.wrap ((x.toNat:Nat):Int)) e).trans (wrap_bv _)
theorem bv_not (a:BitVec 32):IntKind.u32.wrap ((BitVec.ofInt IntKind.u32.bits IntKind.u32.max ^^^ BitVec.ofInt IntKind.u32.bits (a.toNat:Int)).toNat:Int)=((~~~ a).toNat:Int):=by
 have e:BitVec.ofInt 32 IntKind.u32.max ^^^ BitVec.ofInt 32 (a.toNat:Int) = ~~~ a:=by rw[Yx,show BitVec.ofInt 32 IntKind.u32.max=BitVec.allOnes 32 from by decide,BitVec.allOnes_xor]
 exact (congrArg (fun x:BitVec 32=>IntKind.u32.wrap ((x.toNat:Nat):Int)) e).trans (wrap_bv _)
theorem un_not (a:BitVec 32):unQ true .xor (.e (.c (.v (.x (.int .u32 (a.toNat:Int))))))=.ret (.e (.c (.v (.x (.int .u32 ((~~~ a).toNat:Int))))),[]):=by
 rw[<-bv_not];rfl
theorem bv_shr (k:Nat) (a:BitVec 32) (hk:k<=32):((a.toNat:Nat):Int).fdiv (2 ^ (min k IntKind.u32.bits))=((a >>> k).toNat:Int):=by
 rw[show min k IntKind.u32.bits=k from Nat.min_eq_left hk,Int.fdiv_eq_ediv_of_nonneg _ (by exact Int.le_of_lt (Int.pow_pos (by omega)))];rw[BitVec.toNat_ushiftRight,Nat.shiftRight_eq_div_pow]
 norm_cast
theorem bv_shr1 (a:BitVec 32):((a.toNat:Nat):Int).fdiv (2 ^ (min (Int.toNat 1) IntKind.u32.bits))=((a >>> 1).toNat:Int):=bv_shr 1 a (by omega)
theorem bv_shr1b (a:BitVec 32):((a.toNat:Nat):Int).fdiv (2 ^ (min 1 IntKind.u32.bits))=((a >>> 1).toNat:Int):=bv_shr 1 a (by omega)
theorem bv_shr8 (a:BitVec 32):((a.toNat:Nat):Int).fdiv (2 ^ (min (Int.toNat 8) IntKind.u32.bits))=((a >>> 8).toNat:Int):=bv_shr 8 a (by omega)
theorem bv_shr8b (a:BitVec 32):((a.toNat:Nat):Int).fdiv (2 ^ (min 8 IntKind.u32.bits))=((a >>> 8).toNat:Int):=bv_shr 8 a (by omega)
theorem bv_shr16 (a:BitVec 32):((a.toNat:Nat):Int).fdiv (2 ^ (min (Int.toNat 16) IntKind.u32.bits))=((a >>> 16).toNat:Int):=bv_shr 16 a (by omega)
theorem bv_shr24 (a:BitVec 32):((a.toNat:Nat):Int).fdiv (2 ^ (min (Int.toNat 24) IntKind.u32.bits))=((a >>> 24).toNat:Int):=bv_shr 24 a (by omega)
theorem bv_low (a:BitVec 32):IntKind.u8.wrap ((a.toNat:Nat):Int)=((a.setWidth 8).toNat:Int):=by
 simp only[IntKind.wrap,IntKind.bits,IntKind.signed,BitVec.toNat_setWidth];simp
theorem bv_xor8 (a:BitVec 8) (c:Int):IntKind.u8.wrap ((BitVec.ofInt IntKind.u8.bits (a.toNat:Int) ^^^ BitVec.ofInt IntKind.u8.bits c).toNat:Int)=((a ^^^ BitVec.ofInt 8 c).toNat:Int):=by
 have e:BitVec.ofInt 8 (a.toNat:Int) ^^^ BitVec.ofInt 8 c=a ^^^ BitVec.ofInt 8 c:=by rw[Yx]
 exact (congrArg (fun x:BitVec 8=>IntKind.u8.wrap ((x.toNat:Nat):Int)) e).trans (wrap_bv8 _)
theorem bv_odd (a:BitVec 32):(((a &&& 1#32).toNat:Int) == 1)=decide (a &&& 1#32=1#32):=by
 rw[Bool.eq_iff_iff];simp only[beq_iff_eq,decide_eq_true_eq];rw[<-BitVec.toNat_inj];simp only[BitVec.toNat_ofNat];omega
theorem bits_odd {k:Nat} {n:BitVec 32} (h:bits k n &&& 1#32=1#32):(bits k n >>> 1) ^^^ 3988292384#32=bits (k+1) n:=by
 rw[bits,bit1,if_pos h]
theorem bits_even {k:Nat} {n:BitVec 32} (h:¬bits k n &&& 1#32=1#32):(bits k n >>> 1)=bits (k+1) n:=by
 rw[bits,bit1,if_neg h]
def sumsAt (i:Nat):List C:=(List.range 256).map fun j=>.v (.x (.int .u32 (if j<i then (bits 8 (BitVec.ofNat 32 j)).toNat else 0:Nat)))
theorem Yf (i:Nat):(sumsAt i).length=256:=by simp[sumsAt]
theorem sums_put (x y z:C) (i:Nat) (h:i<256):List.take (3+i) (x::y::z::sumsAt i)++[.v (.x (.int .u32 ((bits 8 (BitVec.ofNat 32 i)).toNat:Int)))]++List.drop (3+i) (y::z::sumsAt i)=x::y::z::sumsAt (i+1):=by
 change splice (x::y::z::sumsAt i) (3+i) [.v (.x (.int .u32 ((bits 8 (BitVec.ofNat 32 i)).toNat:Int)))]=_;rw[Nat.add_comm 3 i];unfold splice;simp only[List.take_succ_cons,List.cons_append,List.length_singleton];rw[show i+3+1=(i+1)+3 by omega];simp only[List.drop_succ_cons];congr 3;apply List.ext_getElem?;intro j;rcases Nat.lt_trichotomy j i with hj|hj|hj
 .rw[List.getElem?_append_left (by simp[Yf];omega),List.getElem?_append_left (by simp[Yf];omega),List.getElem?_take,if_pos hj];simp only[sumsAt,List.getElem?_map,List.getElem?_range (show j<256 by omega),Option.map_some,if_pos hj,if_pos (show j<i+1 by omega)]
 .subst hj;rw[List.getElem?_append_left (by simp[Yf];omega),List.getElem?_append_right (by simp[Yf];omega)];simp only[List.length_take,Yf,Nat.min_eq_left (Nat.le_of_lt h),Nat.sub_self,List.getElem?_cons_zero];simp only[sumsAt,List.getElem?_map,List.getElem?_range h,Option.map_some,if_pos (show j<j+1 by omega)]
 .rw[List.getElem?_append_right (by simp[Yf];omega),List.getElem?_drop];simp only[List.length_append,List.length_take,Yf,Nat.min_eq_left (Nat.le_of_lt h),List.length_singleton];rw[show i+1+(j - (i+1))=j by omega];by_cases h2:j<256
  .simp only[sumsAt,List.getElem?_map,List.getElem?_range h2,Option.map_some,if_neg (show ¬j<i by omega),if_neg (show ¬j<i+1 by omega)]
  .rw[List.getElem?_eq_none (by simp[Yf];omega),List.getElem?_eq_none (by simp[Yf];omega)]
theorem sums_get (c:BitVec 8):(sumsAt 256).getD c.toNat default=.v (.x (.int .u32 ((tab c).toNat:Int))):=by
 have h:c.toNat<256:=c.isLt;simp only[List.getD_eq_getElem?_getD,sumsAt,List.getElem?_map,List.getElem?_range h,Option.map_some,Option.getD_some,if_pos h];rw[tab,show BitVec.ofNat 32 c.toNat=c.setWidth 32 from by apply BitVec.eq_of_toNat_eq;simp]
end ND
namespace ND
abbrev W32 (n:BitVec 32):D:=.e (.c (.v (.x (.int .u32 (n.toNat:Int)))))
theorem sums_le (H H2:Nat->Option Blk) (τ:Nat->Nat) (ν:List Nat) (i:Nat):CsLe H H2 τ ν (sumsAt i) (sumsAt i)=True:=by
 unfold sumsAt;generalize List.range 256=l
 induction l with
 | nil=>rfl
 | cons a l ih=>simp only[List.map_cons,CsLe,CLe,VLe,ih,and_true]
theorem sums_ids (i:Nat):(sumsAt i).flatMap idsC=[]:=by
 unfold sumsAt;generalize List.range 256=l
 induction l with
 | nil=>rfl
 | cons a l ih=>simp only[List.map_cons,List.flatMap_cons,idsC,List.nil_append,ih]
theorem sums_ren (τ:Nat->Nat) (i:Nat):(sumsAt i).map (renC τ)=sumsAt i:=by
 unfold sumsAt;rw[List.map_map];rfl
def qDC31:=PLift.up (An @wrap_u32 (An @bv_and1 (An @bv_xorP (An @bv_shr1 (An @bv_shr1b (An @bv_odd (An @Int.toNat_natCast (An @List.length_cons.{0} (An @Yf @sums_le)))))))))
theorem fill_c (x y z:Value):ACall prog 255 [.loc (.v (.x x)::.v (.x y)::.v (.x z)::sumsAt 0)] [.p 0 0] (.t []) [.loc (.v (.x x)::.v (.x y)::.v (.x z)::sumsAt 256)]:=by
 have h1:True:=trivial;have h2:True:=trivial;refine Ac func255 ?_;refine Wk (An @h1 (An @h2 qDC31.1)) trivial ?_;refine AWp.loop (fun k:Nat=>mkSt [(0,.p 0 0),(5,I k)] [(0,.loc (.v (.x x)::.v (.x y)::.v (.x z)::sumsAt k))] 1) (fun k=>k<=256) (fun k=>256 - k) 0 (Nat.zero_le _) (by refine Le.of (τ:=[]) (ν:=[]) (by kernel_rfl) ?_ ?_<;>((refine Lw (An @h1 (An @h2 qDC31.1)) ?_;try exact ⟨⟩);try omega)) fun k hk=>?_;refine Wk (An @h1 (An @h2 qDC31.1)) trivial ?_;refine Cb ?_ ?_<;>intro hc<;>(try exact ⟨⟩)
 .have hk2:k<256:=by omega
  refine Wk (An @h1 (An @h2 qDC31.1)) trivial ?_
  have h1:(k:Int)=((bits 0 (BitVec.ofNat 32 k)).toNat:Int):=by
   simp only[bits,BitVec.toNat_ofNat];omega
  refine AWp.loop (fun i:Nat=>mkSt [(0,.p 0 0),(5,I k),(2,I k),(3,W32 (bits i (BitVec.ofNat 32 k))),(10,I i)] [(0,.loc (.v (.x x)::.v (.x y)::.v (.x z)::sumsAt k))] 1) (fun i=>i<=8) (fun i=>8 - i) 0 (Nat.zero_le _) (by refine Le.of (τ:=[]) (ν:=[]) (by kernel_rfl) ?_ ?_<;>((refine Lw (An @h1 (An @h2 qDC31.1)) ?_;try exact ⟨⟩);try (first|omega|exact h1))) fun i hi=>?_;have h1:True:=trivial;refine Wk (An @h1 (An @h2 qDC31.1)) trivial ?_;refine Cb ?_ ?_<;>intro hc<;>(try exact ⟨⟩)
  .refine Wk (An @h1 (An @h2 qDC31.1)) trivial ?_;refine Cb ?_ ?_<;>intro hc<;>(try exact ⟨⟩)
   .have h2:=bits_odd hc;refine Wk (An @h1 (An @h2 qDC31.1)) trivial ?_;refine Za (i+1) (by omega) (by omega) (by refine Le.of (τ:=[]) (ν:=[]) (by kernel_rfl) ?_ ?_<;>((refine Lw (An @h1 (An @h2 qDC31.1)) ?_;try exact ⟨⟩);try omega))
   .have h2:=bits_even hc;refine Wk (An @h1 (An @h2 qDC31.1)) trivial ?_;refine Za (i+1) (by omega) (by omega) (by refine Le.of (τ:=[]) (ν:=[]) (by kernel_rfl) ?_ ?_<;>((refine Lw (An @h1 (An @h2 qDC31.1)) ?_;try exact ⟨⟩);try omega))
  .have h8:i=8:=by omega
   subst h8;have h2:=sums_put (.v (.x x)) (.v (.x y)) (.v (.x z)) k hk2;refine Wk (An @h1 (An @h2 qDC31.1)) trivial ?_;refine Za (k+1) (by omega) (by omega) (by refine Le.of (τ:=[]) (ν:=[]) (by kernel_rfl) ?_ ?_<;>((refine Lw (An @h1 (An @h2 qDC31.1)) ?_;try exact ⟨⟩);try omega))
 .have h8:k=256:=by omega
  subst h8;refine Wk (An @h1 (An @h2 qDC31.1)) trivial ?_;refine Fn @results255 (An @h1 (An @h2 qDC31.1)) ?_;try exact ⟨⟩
end ND
section
namespace ND
theorem all2_set {α β:Type} {R:α->β->Prop}:∀ {xs:List α} {ys:List β} {n:Nat} {a:α} {b:β},All2 R xs ys->R a b->All2 R (xs.set n a) (ys.set n b)
 | [],[],_,_,_,_,_=>trivial
 | _::_,_::_,0,_,_,⟨_,hs⟩,h=>⟨h,hs⟩
 | _::_,_::_,_+1,_,_,⟨h0,hs⟩,h=>⟨h0,all2_set hs h⟩
 | [],_::_,_,_,_,h,_=>h.elim
 | _::_,[],_,_,_,h,_=>h.elim
section one
variable {own0 mt:Nat->Prop} {w0 w:World} {ρ:Nat->Option Pl} {cs:List C} {b c:Nat}
theorem one_get (hm:Mem own0 mt w0 ρ (fun i=>[Blk.loc cs][i]?) w) (hp:ρ 0=some (.blk b 0 c)) {off:Nat} {v:Value} (hv:cs[off]?=some (.v (.x v))) :
 w.cell? ⟨b,off,none⟩=some v/\w.frozen? ⟨b,off,none⟩=false:=by
 obtain ⟨b',c',hp',vs,T,fr,hh,hf,ha⟩:=hm.blks 0 _ rfl;rw[hp]at hp';cases hp';obtain ⟨u,hu,hr⟩:=ha.get hv;obtain ⟨rfl,_⟩:u=v/\v.oneCell=true:=rep_x (show RepD w _ ρ (.x v) u from hr)
 have hlt:off<vs.size:=by
  have:=(List.getElem?_eq_some_iff.1 hu).1;simpa using this
 refine ⟨by simp[World.cell?,hh];simpa using hu,?_⟩;have:=hf.1.off off hlt;simp only[World.frozen?,hh];simp only[Bool.and_eq_false_iff,decide_eq_false_iff_not,ge_iff_le,Bool.eq_false_iff];simp;omega
theorem one_set (hm:Mem own0 mt w0 ρ (fun i=>[Blk.loc cs][i]?) w) (hp:ρ 0=some (.blk b 0 c)) (off:Nat) {v:Value} (hv:v.oneCell=true) :
 Mem own0 mt w0 ρ (fun i=>[Blk.loc (cs.set off (.v (.x v)))][i]?) (w.setCell ⟨b,off,none⟩ v):=by
 obtain ⟨b',c',hp',vs,T,fr,hh,hf,ha⟩:=hm.blks 0 _ rfl;rw[hp]at hp';cases hp';rw[setCell_eq hh];have hlive:live ((fun i=>[Blk.loc cs][i]?) 0)=true:=rfl
 have h:=(hm.write (blk:=.loc (cs.set off (.v (.x v)))) hp hlive rfl (vs.setIfInBounds off v) T fr
  ⟨b,c,hp,_,T,fr,Yh (Array.getElem?_eq_some_iff.1 hh).1,hf.size (by simp),by
   rw[Array.toList_setIfInBounds]
   exact (all2_set (n:=off) (a:=C.v (.x v)) ha (show RepC w _ ρ (.v (.x v)) v from RepV.x v hv)).mono fun _ _ h=>h.mono (Keep.setBlk (.inr ⟨0,_,_,hp,hlive⟩) _) (fun _ _ h=>h) (.refl _)⟩).1
 have e:upd (fun i=>[Blk.loc cs][i]?) 0 (some (Blk.loc (cs.set off (.v (.x v)))))=fun i=>[Blk.loc (cs.set off (.v (.x v)))][i]?:=by
  funext i
  cases i with
  | zero=>rfl
  | succ i=>simp[upd]
 rwa [e]at h
theorem one_call {f:Nat} {args:List D} {val:D} {cs':List C} {vs:List Value} (hc:ACall prog f [.loc cs] args val [.loc cs']) (hm:Mem own0 (Hd ρ) w0 ρ (fun i=>[Blk.loc cs][i]?) w) (hp:ρ 0=some (.blk b 0 c))
 (ha:All2 (RepD w (Ow own0 ρ fun i=>[Blk.loc cs][i]?) ρ) args vs) :
 Calls prog f vs.toArray w fun e w'=>∃u,e=.returned u/\RepD w' (Ow own0 ρ fun i=>[Blk.loc cs'][i]?) ρ val u/\Mem own0 (Hd ρ) w0 ρ (fun i=>[Blk.loc cs'][i]?) w':=by
 have hm1:Mem own0 (Hd ρ) w ρ (fun i=>[Blk.loc cs][i]?) w:={ hm with
  fresh:=fun i b c k h=>⟨.inr ⟨i,c,k,h⟩,(hm.fresh i b c k h).2⟩
  keep:=KeepM.refl _ _
  own0:=fun b hb=>Nat.lt_of_lt_of_le (hm.own0 b hb) hm.keep.size
  glob:=hm.glob.next2 hm.keep (fun _ e=>.inl e) fun b hb=>.inr hb }
 refine (hc.2 own0 w ρ vs hm1 ha).mono ?_;rintro e w' ⟨u,ρ',rfl,hs,hr,hm2⟩
 have e:ρ'=ρ:=by
  funext i
  cases i with
  | zero=>rw[hp];exact hs _ _ hp
  | succ i=>rw[hm.defd (i+1) (by simp),hm2.defd (i+1) (by simp)]
 subst e
 refine ⟨u,rfl,hr,{ hm2 with
  fresh:=fun i b c k h=>⟨(hm.fresh i b c k h).1,(hm2.fresh i b c k h).2⟩
  keep:=hm.keep.trans hm2.keep
  own0:=hm.own0
  glob:=hm.glob }⟩
end one
abbrev tabC (d:Int) (s:Int) (i:Nat):List C:=.v (.x (.int .u32 d))::.v (.x (.int .i32 s))::.v (.x (.int .u32 0))::sumsAt i
theorem run_not (x:Bool) (w:World):(Op.unary .not (.bool x)).run prog w=.ok (.bool (!x)) w:=rfl
set_option maxHeartbeats 1600000 in
theorem do_first (b:Nat) (arg:Value) (Q:World->Prop) (w:World)
 (h0:w.cell? ⟨b,0,none⟩=some (.int .u32 0)) (h1:w.cell? ⟨b,1,none⟩=some (.int .i32 0))
 (f0:w.frozen? ⟨b,0,none⟩=false) (f1:w.frozen? ⟨b,1,none⟩=false)
 (hf:Calls prog 255 #[arg] (w.setCell ⟨b,1,none⟩ (.int .i32 1)) fun e w'=>e=.returned (.tuple #[])/\Q w')
 (hq0:∀w',Q w'->w'.cell? ⟨b,0,none⟩=some (.int .u32 0)) (hq1:∀w',Q w'->w'.cell? ⟨b,1,none⟩=some (.int .i32 1))
 (hq2:∀w',Q w'->w'.frozen? ⟨b,0,none⟩=false) (hq3:∀w',Q w'->w'.frozen? ⟨b,1,none⟩=false) :
 Calls prog 254 #[.pointer (some ⟨b,0,none⟩),.func (.func 255) #[arg] #[]] w fun e w'=>e=.returned (.tuple #[]) /\
  ∃w1,Q w1/\w'=(w1.drew.setCell ⟨b,0,none⟩ (.int .u32 1)).setCell ⟨b,1,none⟩ (.int .i32 0):=by
 have hl:=run_call_load (P:=prog) func319 (by kernel_rfl) (by kernel_rfl) (by kernel_rfl) .u32 (by kernel_rfl) h0;have hnot:=run_not
 go_enter func254,ntmps254
 go_wp2_with (first|(go_at_call 292;refine (Once.slow_any b 64 arg Q _ h0 h1 f0 f1 hf hq0 hq1 hq2 hq3).mono ?_;rintro e w' ⟨rfl,hQ⟩)|(go_at_call 291;go_in))
 go_end0
 exact ⟨rfl,hQ⟩
theorem do_done (a:Addr) (d:Int) (hd:¬d=0) (fv:Value) (w:World) (h0:w.cell? a=some (.int .u32 d)) :
 Calls prog 254 #[.pointer (some a),fv] w fun e w'=>e=.returned (.tuple #[])/\w'=w:=by
 have hl:=run_call_load (P:=prog) func319 (by kernel_rfl) (by kernel_rfl) (by kernel_rfl) .u32 (by kernel_rfl) h0;have hnot:=run_not;have hd':(d != 0)=true:=by simp[hd]
 go_enter func254,ntmps254
 go_wp2
 go_end0
 exact ⟨rfl,rfl⟩
end ND
end
namespace ND
theorem run_mf (fn:Go.Fn) (first cap:Array Value) (w:World):(Instr.makeFunc fn first cap).run prog w=.ok (.func fn first cap) w:=rfl
theorem sums_get2 (d s:Int) (c:BitVec 8):(tabC d s 256)[3+c.toNat]?=some (.v (.x (.int .u32 ((tab c).toNat:Int)))):=by
 rw[Nat.add_comm];simp only[List.getElem?_cons_succ];have:=sums_get c;rw[List.getD_eq_getElem?_getD]at this;have hlt:c.toNat<(sumsAt 256).length:=by rw[Yf];exact c.isLt
 rw[List.getElem?_eq_getElem hlt]at this ⊢;simpa using this
set_option maxHeartbeats 1600000 in
theorem of_run (c:BitVec 8) (b:Nat) (Q:World->Prop) (w:World)
 (hd:Calls prog 254 #[.pointer (some ⟨b,0,none⟩),.func (.func 255) #[.pointer (some ⟨b,0,none⟩)] #[]] w fun e w'=>e=.returned (.tuple #[])/\Q w')
 (hq:∀w',Q w'->w'.cell? ⟨b,3+c.toNat,none⟩=some (.int .u32 ((tab c).toNat:Int))) :
 Calls prog 205 #[.pointer (some ⟨b,0,none⟩),.int .u8 (c.toNat:Int)] w fun e w'=>e=.returned (.int .u32 ((tab c).toNat:Int))/\Q w':=by
 have hmf:=run_mf;have hlt:(c.toNat:Int)<256:=by have:=c.isLt;omega
 go_enter func205,ntmps205
 go_wp2_with (go_at_call 254;refine hd.mono ?_;rintro e w' ⟨rfl,hQ⟩;have hcell:=hq _ hQ)
 go_ret
 exact ⟨rfl,hQ⟩
abbrev U8b (c:BitVec 8):D:=.e (.c (.v (.x (.int .u8 (c.toNat:Int)))))
theorem of_c (c:BitVec 8) (d:Int) (i:Nat) (h:(d=0/\i=0)\/(d=1/\i=256)):ACall prog 205 [.loc (tabC d 0 i)] [.p 0 0,U8b c] (W32 (tab c)) [.loc (tabC 1 0 256)]:=by
 refine ⟨⟨_,func205,by kernel_rfl,by kernel_rfl⟩,?_⟩;intro own0 w ρ vs hm ha
 match vs,ha with
 | [pv,cv],⟨hpv,hcv,_⟩ =>
 obtain ⟨b,z,cc,hp,rfl⟩:=hpv
 have hz:z=0:=by
  obtain ⟨b',c',hp',_⟩:=hm.blks 0 _ rfl;rw[hp]at hp';cases hp';rfl
 subst hz;obtain ⟨rfl,_⟩:=rep_x hcv;simp only[Nat.add_zero];have h0:=one_get (off:=0) hm hp rfl;have h1:=one_get (off:=1) hm hp rfl;refine (of_run c b (fun w'=>Mem own0 (Hd ρ) w ρ (fun i=>[Blk.loc (tabC 1 0 256)][i]?) w') w ?_ ?_).mono ?_
 .rcases h with ⟨rfl,rfl⟩|⟨rfl,rfl⟩
  .have hm1:=one_set (v:=.int .i32 1) hm hp 1 rfl;have hf:=one_call (fill_c (.int .u32 0) (.int .i32 1) (.int .u32 0)) hm1 hp (vs:=[.pointer (some ⟨b,0,none⟩)]) ⟨⟨b,0,cc,hp,rfl⟩,trivial⟩;refine (do_first b _ (fun w'=>Mem own0 (Hd ρ) w ρ (fun i=>[Blk.loc (tabC 0 1 256)][i]?) w') w h0.1 h1.1 h0.2 h1.2 ?_ ?_ ?_ ?_ ?_).mono ?_
   .refine hf.mono ?_;rintro e w' ⟨u,rfl,hr,hm2⟩;obtain ⟨us,rfl,hu⟩:=hr
    match us,hu with
    | [],_=>exact ⟨rfl,hm2⟩
   .exact fun w' hq=>(one_get (off:=0) hq hp rfl).1
   .exact fun w' hq=>(one_get (off:=1) hq hp rfl).1
   .exact fun w' hq=>(one_get (off:=0) hq hp rfl).2
   .exact fun w' hq=>(one_get (off:=1) hq hp rfl).2
   .rintro e w' ⟨rfl,w1,hq,rfl⟩;exact ⟨rfl,one_set (v:=.int .i32 0) (one_set (v:=.int .u32 1) hq.drew hp 0 rfl) hp 1 rfl⟩
  .refine (do_done ⟨b,0,none⟩ 1 (by decide) _ w h0.1).mono ?_;rintro e w' ⟨rfl,rfl⟩;exact ⟨rfl,hm⟩
 .exact fun w' hq=>(one_get hq hp (sums_get2 1 0 c)).1
 .rintro e w' ⟨rfl,hq⟩;exact ⟨_,ρ,rfl,Sub.refl _,rep_x_mk rfl,hq⟩
end ND
namespace ND
abbrev diskD (s0 t0 s1 t1:List Int):D:=.e (.a [.v (sB s0),.v (sB t0),.v (sB s1),.v (sB t1)])
abbrev SB (xs:List Int):D:=.e (.c (.v (sB xs)))
end ND
namespace ND
def tot (xss:List (List Int)) (k:Nat):Nat:=((xss.take k).flatten).length
theorem take_succ_flat (xss:List (List Int)) (k:Nat) (h:k<xss.length):(xss.take (k+1)).flatten=(xss.take k).flatten++xss.getD k default:=by
 rw[List.take_add_one,List.flatten_append];simp[List.getElem?_eq_getElem h,List.getD_eq_getElem?_getD]
theorem tot_succ (xss:List (List Int)) (k:Nat) (h:k<xss.length):tot xss (k+1)=tot xss k+(xss.getD k default).length:=by
 simp only[tot,take_succ_flat xss k h,List.length_append]
theorem tot_map (xss:List (List Int)) (k:Nat) (f:Int->List V):((xss.take k).flatten.map f).length=tot xss k:=by rw[List.length_map,tot]
theorem tot_zero (xss:List (List Int)):tot xss 0=0:=rfl
theorem tot_all (xss:List (List Int)):tot xss xss.length=xss.flatten.length:=by simp[tot]
theorem tot_le (xss:List (List Int)) (k:Nat):tot xss k<=xss.flatten.length:=by
 have:xss.flatten=(xss.take k).flatten++(xss.drop k).flatten:=by rw[<-List.flatten_append,List.take_append_drop]
 rw[this,List.length_append,tot];omega
abbrev SS (xss:List (List Int)):D:=.e (.c (.v (.s 1 (xss.map fun x=>[sB x]))))
end ND
end Eng
end Go.Proofs.YtgenjpingdkmgaaGreatDoor
