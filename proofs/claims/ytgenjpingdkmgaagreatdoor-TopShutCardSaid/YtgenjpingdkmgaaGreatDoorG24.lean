/- Contracts of functions that this seat's law calls. No condition. -/
import Derived.Test.YtgenjpingdkmgaaGreatDoorG23
set_option maxRecDepth 100000
set_option linter.unusedSimpArgs false
set_option linter.unusedVariables false
open Go.Proofs.Tryz
namespace Go.Proofs.YtgenjpingdkmgaaGreatDoor
namespace Eng
section
open NU
def limE:NA.Lim:=⟨str [97],str [115],10,10,10,1000⟩
def ordE:Ord:=⟨str [111],str [97],str [115],true,7,50,0,true⟩
def ordF:Ord:=⟨str [111],str [97],str [115],true,7,50,3,true⟩
def exE1:Exe:=⟨str [101,49],⟨#[]⟩,str [111],str [97],str [115],1,true,7,50,1⟩
def exE2:Exe:=⟨str [101,50],⟨#[]⟩,str [111],str [97],str [115],2,true,3,50,2⟩
def bkE1:Bk:=⟨[ordE],[],[str [101,49]],1,0⟩
def bkE2:Bk:=⟨[ordF],[filX exE2],[str [101,49],str [101,50]],2,0⟩
def gE1:Gat:=⟨[default],[limE],false,0,100⟩
def gE2:Gat:=⟨[⟨default,[ordE],0,false⟩],[limE],false,0,100⟩
def gE3:Gat:=⟨[⟨bkE1,[],0,false⟩],[limE],false,0,100⟩
def gE4:Gat:=⟨[⟨bkE2,[],0,false⟩],[limE],false,0,100⟩
theorem rgt0:NO.rightB []=true:=NO.Zy.2 ⟨by decide,fun i hi=>by simp at hi⟩
theorem rgt1:NO.rightB [ordE]=true:=NO.Zy.2 ⟨by decide,fun i hi=>by
 obtain rfl:i=0:=by simp at hi;omega
 decide⟩
theorem set0:NA.setL [] limE=([limE],0):=by
 rw[NA.setL_ins ⟨by decide,fun i hi=>by simp at hi⟩ (by decide) (by decide) (by decide)];rfl
theorem ev1:limitG (newG 1 100) limE=(gE1,0):=by
 unfold limitG;rw[show (newG 1 100).lims=[] from rfl,set0];rfl
theorem mul350:NA.mulS 7 50=(350,true):=by
 unfold NA.mulS;rw[if_pos];· rfl
 .unfold NA.okN;omega
theorem add7:NA.addS 0 7=(7,true):=by
 unfold NA.addS;rw[if_pos];· rfl
 .unfold NA.okN;omega
theorem why0:whyG gE1 0 ordE=0:=by
 unfold whyG;rw[if_neg (by decide),if_neg (by decide)];have e1:NA.findL gE1.lims ordE.acc ordE.sym=(limE,true):=by rfl
 have e2:worstG gE1 ordE.acc ordE.sym=(0,0):=by decide
 unfold whyL;rw[e1,e2];show NA.whyF limE true (oA ordE) 0 0=0;unfold NA.whyF;rw[show (oA ordE).qty=7 from rfl,show (oA ordE).price=50 from rfl,mul350,add7];decide
theorem ev2:orderG gE1 0 ⟨str [111],str [97],str [115],true,7,50,0,false⟩=(gE2,0,0):=by
 unfold orderG;rw[if_neg (by decide),if_neg (by decide),show newO ⟨str [111],str [97],str [115],true,7,50,0,false⟩=ordE from rfl,show (0:Int).toNat=0 from rfl,why0];rfl
theorem tk1:takeS default exE1=(bkE1,1):=by
 have h:applyS { (default:Bk) with ids:=(default:Bk).ids++[exE1.id] } exE1=(⟨[ordE],[],[str [101,49]],0,0⟩,0):=by
  unfold applyS;rw[if_neg (by decide),if_pos (by decide)]
  have:NO.newS ([]:List Ord) (nwX exE1)=([ordE],0):=by
   unfold NO.newS;rw[rgt0];rfl
  rw[show ({ (default:Bk) with ids:=(default:Bk).ids++[exE1.id] }:Bk).ords=[] from rfl,this];rfl
 unfold takeS;rw[if_neg (by decide),if_neg (by decide),h];rfl
theorem ev3:toldG gE2 0 exE1=(gE3,1,0):=by
 unfold toldG;rw[if_neg (by decide),show (vat gE2 0).bk=default from rfl,tk1,if_neg (by decide),if_neg (by decide),if_pos rfl,if_pos (by decide)];rfl
theorem tk2:takeS bkE1 exE2=(bkE2,1):=by
 have h:applyS { bkE1 with ids:=bkE1.ids++[exE2.id] } exE2=(⟨[ordF],[filX exE2],[str [101,49],str [101,50]],1,0⟩,0):=by
  unfold applyS;rw[if_neg (by decide),if_neg (by decide),if_neg (by decide)]
  have h1:NO.findS [ordE] (str [111])=(ordE,true):=by
   unfold NO.findS;rw[rgt1];rfl
  have h2:NO.fillS [ordE] (str [111]) 3 50=([ordF],0):=by
   unfold NO.fillS;rw[rgt1];rfl
  rw[show ({ bkE1 with ids:=bkE1.ids++[exE2.id] }:Bk).ords=[ordE] from rfl,show (if exE2.kind=4 then exE2.ref else exE2.ord)=str [111] from rfl,h1,if_neg (by decide),if_neg (by decide),if_pos (by decide)];unfold bfillS;rw[show ({ bkE1 with ids:=bkE1.ids++[exE2.id] }:Bk).ords=[ordE] from rfl,show exE2.ord=str [111] from rfl,show exE2.qty=3 from rfl,show exE2.price=50 from rfl,h2];rfl
 unfold takeS;rw[if_neg (by decide),if_neg (by decide),h];rfl
theorem ev4:toldG gE3 0 exE2=(gE4,1,0):=by
 unfold toldG;rw[if_neg (by decide),show (vat gE3 0).bk=bkE1 from rfl,tk2,if_neg (by decide),if_neg (by decide),if_pos rfl,if_neg (by decide)];rfl
theorem ev5:worstG gE4 (str [97]) (str [115])=(7,0):=by decide
end
section
open NU
theorem shw (n:Int) (l:List UInt8) (h:okN n) (e:Lib.itoa n=l):showL n=l:=by rw[Ye h,e]
theorem shw_s:showL 35=[51,53]/\showL 34=[51,52]/\showL 52=[53,50]/\showL 17=[49,55]/\showL 11=[49,49]/\showL 55=[53,53]/\showL 54=[53,52]/\showL 32=[51,50]/\showL 31=[51,49]/\showL 60=[54,48] :=
 ⟨shw _ _ (by unfold okN;omega) (by kernel_rfl),shw _ _ (by unfold okN;omega) (by kernel_rfl),shw _ _ (by unfold okN;omega) (by kernel_rfl),shw _ _ (by unfold okN;omega) (by kernel_rfl),shw _ _ (by unfold okN;omega) (by kernel_rfl),shw _ _ (by unfold okN;omega) (by kernel_rfl),shw _ _ (by unfold okN;omega) (by kernel_rfl),shw _ _ (by unfold okN;omega) (by kernel_rfl),shw _ _ (by unfold okN;omega) (by kernel_rfl),shw _ _ (by unfold okN;omega) (by kernel_rfl)⟩
def fl1:List Fld:=[(35,s8),(34,str [49]),(52,str [48]),(17,str [101,49]),(11,str [111]),(1,str [97]),(55,str [115]),(54,s1),(150,str [49]),(32,str [55]),(31,str [53,48]),(60,str [49])]
def fl2:List Fld:=[(35,s8),(34,str [49]),(52,str [48]),(17,str [101,50]),(11,str [111]),(1,str [97]),(55,str [115]),(54,s1),(150,str [50]),(32,str [51]),(31,str [53,48]),(60,str [50])]
theorem ms1:msFl exE1=fl1:=by
 show ([((35:Int),s8)]++[((34:Int),str (showL 1))]++[((52:Int),str (showL 0))]++([(17,str [101,49])]++[]++[(11,str [111])]++[(1,str [97])]++[(55,str [115])]++[(54,s1)]++[(150,str (showL 1))]++[(32,str (showL 7))]++[(31,str (showL 50))]++[(60,str (showL 1))]):List Fld)=fl1;rw[shw_1,shw_0,shw_7,shw_50];rfl
theorem ms2:msFl exE2=fl2:=by
 show ([((35:Int),s8)]++[((34:Int),str (showL 1))]++[((52:Int),str (showL 0))]++([(17,str [101,50])]++[]++[(11,str [111])]++[(1,str [97])]++[(55,str [115])]++[(54,s1)]++[(150,str (showL 2))]++[(32,str (showL 3))]++[(31,str (showL 50))]++[(60,str (showL 2))]):List Fld)=fl2;rw[shw_1,shw_0,shw_2,shw_3,shw_50];rfl
def by1:List UInt8:=[51,53,61,56,1,51,52,61,49,1,53,50,61,48,1,49,55,61,101,49,1,49,49,61,111,1,49,61,97,1,53,53,61,115,1,53,52,61,49,1,49,53,48,61,49,1,51,50,61,55,1,51,49,61,53,48,1,54,48,61,49,1]
def by2:List UInt8:=[51,53,61,56,1,51,52,61,49,1,53,50,61,48,1,49,55,61,101,50,1,49,49,61,111,1,49,61,97,1,53,53,61,115,1,53,52,61,49,1,49,53,48,61,50,1,51,50,61,51,1,51,49,61,53,48,1,54,48,61,50,1]
theorem enc1:encL fl1=by1:=by
 obtain ⟨h35,h34,h52,h17,h11,h55,h54,h32,h31,h60⟩:=shw_s;unfold encL;simp only[fl1,List.map_cons,List.map_nil,encF,h35,h34,h52,h17,h11,h55,h54,h32,h31,h60,shw_1,shw_150];rfl
theorem enc2:encL fl2=by2:=by
 obtain ⟨h35,h34,h52,h17,h11,h55,h54,h32,h31,h60⟩:=shw_s;unfold encL;simp only[fl2,List.map_cons,List.map_nil,encF,h35,h34,h52,h17,h11,h55,h54,h32,h31,h60,shw_1,shw_150];rfl
theorem mp1:mputS exE1=(by1,0):=by
 have e:putF fl1=(by1,0):=by unfold putF;rw[if_pos ⟨by decide,by decide⟩,enc1]
 unfold mputS;rw[ms1,e];rfl
theorem mp2:mputS exE2=(by2,0):=by
 have e:putF fl2=(by2,0):=by unfold putF;rw[if_pos ⟨by decide,by decide⟩,enc2]
 unfold mputS;rw[ms2,e];rfl
theorem rs1:repS exE1=⟨(rpL by1).toArray⟩:=by unfold repS;rw[mp1]
theorem rs2:repS exE2=⟨(rpL by2).toArray⟩:=by unfold repS;rw[mp2]
def aE0:Ask:=⟨8,0,zOrd,⟨#[]⟩,zExe,0,false,limE⟩
def aE1:Ask:=⟨1,0,⟨str [111],str [97],str [115],true,7,50,0,false⟩,⟨#[]⟩,zExe,0,false,zLim⟩
def aE2:Ask:=⟨3,0,zOrd,⟨#[]⟩,exE1,0,false,zLim⟩
def aE3:Ask:=⟨3,0,zOrd,⟨#[]⟩,exE2,0,false,zLim⟩
theorem as0:asked8 wd0=aE0:=a0_eq
theorem as1:asked1 wd1=aE1:=by
 unfold asked1 nAt;rw[show numW (wd1.getD (1:Int).toNat [])=0 by decide,show numW (wd1.getD (6:Int).toNat [])=7 by decide,show numW (wd1.getD (7:Int).toNat [])=50 by decide];rfl
theorem as2:asked3 wd2 ⟨#[]⟩=aE2:=by
 unfold asked3 nAt;rw[show numW (wd2.getD (1:Int).toNat [])=0 by decide,show numW (wd2.getD (9:Int).toNat [])=7 by decide,show numW (wd2.getD (10:Int).toNat [])=50 by decide,show numW (wd2.getD (11:Int).toNat [])=1 by decide];rfl
theorem as3:asked3 wd3 ⟨#[]⟩=aE3:=by
 unfold asked3 nAt;rw[show numW (wd3.getD (1:Int).toNat [])=0 by decide,show numW (wd3.getD (9:Int).toNat [])=3 by decide,show numW (wd3.getD (10:Int).toNat [])=50 by decide,show numW (wd3.getD (11:Int).toNat [])=2 by decide];rfl
theorem enc_ne:∀(f:Fld) (l:List Fld),1<=(encL (f::l)).length:=fun f l=>by
 unfold encL;rw[List.map_cons,List.flatten_cons,List.length_append];unfold encF;simp only[List.length_append,List.length_cons,List.length_nil];omega
theorem put_of {a:Ask} (h:mayK a=true) (f:Fld) (l:List Fld) (e:fieldsK a=f::l) (h2:(f::l).all fldB=true):(putK a).2=0/\1<=(putK a).1.length:=by
 have hl:=fieldsK_len a
 have e2:putF (fieldsK a)=(encL (fieldsK a),0):=by
  unfold putF;rw[if_pos ⟨by omega,by rw[e];exact h2⟩]
 unfold putK;rw[if_pos h,e2,if_pos rfl,e];exact ⟨rfl,enc_ne f l⟩
theorem pt0:(putK aE0).2=0/\1<=(putK aE0).1.length:=put_of (as0 ▸ may0) (1,str (showL 8)) [(4,str [97]),(5,str [115]),(12,str (showL 10)),(13,str (showL 10)),(7,str (showL 10)),(8,str (showL 1000))] rfl (by rw[shw_8,shw_10,shw_1000];decide)
theorem pt1:(putK aE1).2=0/\1<=(putK aE1).1.length:=put_of (as1 ▸ may1) (1,str (showL 1)) [(2,str (showL 0)),(3,str [111]),(4,str [97]),(5,str [115]),(6,s1),(7,str (showL 7)),(8,str (showL 50))] rfl (by rw[shw_1,shw_0,shw_7,shw_50];decide)
theorem pt2:(putK aE2).2=0/\1<=(putK aE2).1.length:=put_of (as2 ▸ may2) (1,str (showL 3)) [(2,str (showL 0)),(9,repS exE1)] rfl (by rw[shw_3,shw_0,rs1];decide)
theorem pt3:(putK aE3).2=0/\1<=(putK aE3).1.length:=put_of (as3 ▸ may3) (1,str (showL 3)) [(2,str (showL 0)),(9,repS exE2)] rfl (by rw[shw_3,shw_0,rs2];decide)
theorem do_ok {k:Kee} {g g':Gat} {a:Ask} {n:Int} (hp:(putK a).2=0/\1<=(putK a).1.length) (hk:k.s0.length+k.t0.length<=40000) (ha:askG g a=(g',n,0)) :
 ∃k',doK k g a=((k',g'),n,0)/\k'.s0.length+k'.t0.length<=k.s0.length+k.t0.length+5000:=by
 have hl:=putK_len a
 have e:addK k (putK a).1=({ k with t0:=k.t0++ND.put (bytI (putK a).1) },0):=by
  unfold addK;rw[if_pos hp.2,if_pos (by omega)]
 refine ⟨{ k with t0:=k.t0++ND.put (bytI (putK a).1) },?_,?_⟩
 .unfold doK;rw[if_neg (by rw[hp.1];decide),ha,if_neg (fun h=>h rfl),e,if_neg (fun h=>h rfl)]
 .have h1:=ND.put_len (bytI (putK a).1);have h2:(bytI (putK a).1).length=(putK a).1.length:=by simp[bytI]
  show k.s0.length+(k.t0++ND.put (bytI (putK a).1)).length<=_;rw[List.length_append];omega
theorem ask0:askG (newG 1 100) aE0=(gE1,0,0):=by
 unfold askG;rw[if_neg (by decide),if_neg (by decide),if_neg (by decide),if_neg (by decide),if_neg (by decide),if_neg (by decide),if_neg (by decide),if_pos (by decide),show aE0.l=limE from rfl,ev1]
theorem ask1:askG gE1 aE1=(gE2,0,0):=by unfold askG;rw[if_pos (by decide)];exact ev2
theorem ask2:askG gE2 aE2=(gE3,1,0):=by unfold askG;rw[if_neg (by decide),if_neg (by decide),if_pos (by decide)];exact ev3
theorem ask3:askG gE3 aE3=(gE4,1,0):=by unfold askG;rw[if_neg (by decide),if_neg (by decide),if_pos (by decide)];exact ev4
end
namespace NA
structure Pos where
 acc:ByteArray
 sym:ByteArray
 qty:Int
 value:Int
 over:Bool
deriving DecidableEq
instance :Inhabited Pos:=⟨⟨⟨#[]⟩,⟨#[]⟩,0,0,false⟩⟩
abbrev pD (x:Pos):D:=.e (.a [.v (.x (.string x.acc)),.v (.x (.string x.sym)),.v (.x (.int .i64 x.qty)),.v (.x (.int .i64 x.value)),.v (.x (.bool x.over))])
abbrev pR (l:List Pos):List (List V):=l.map fun x=>[V.x (.string x.acc),V.x (.string x.sym),V.x (.int .i64 x.qty),V.x (.int .i64 x.value),V.x (.bool x.over)]
abbrev psD (l:List Pos):D:=.e (.c (.v (.s 5 (pR l))))
theorem getD_pR (l:List Pos) (i:Nat):(l.map fun x=>[V.x (.string x.acc),V.x (.string x.sym),V.x (.int .i64 x.qty),V.x (.int .i64 x.value),V.x (.bool x.over)]).getD i [V.x (.string ⟨#[]⟩),V.x (.string ⟨#[]⟩),V.x (.int .i64 0),V.x (.int .i64 0),V.x (.bool false)] =
 [V.x (.string (l.getD i default).acc),V.x (.string (l.getD i default).sym),V.x (.int .i64 (l.getD i default).qty),V.x (.int .i64 (l.getD i default).value),V.x (.bool (l.getD i default).over)]:=by
 simp only[List.getD_eq_getElem?_getD,List.getElem?_map];cases l[i]?<;>rfl
def cmpP (a b:Pos):Int:=if cmpS a.acc b.acc≠0 then cmpS a.acc b.acc else cmpS a.sym b.sym
def orS:List Int->Int
 | []=>0
 | n::l=>if n≠0 then n else orS l
def qAQ11:=PLift.up (An @getD_rI (An @getD_pR (An @List.getD_cons_zero.{0} @List.getD_cons_succ.{0})))
theorem or_g (l:List Int) (hl:l.length<=1000000):ACall prog 38 [] [.e (.c (.v (.s 1 (l.map fun n=>[V.x (.int .i64 n)]))))] (I (orS l)) []:=by
 have hq2:True:=trivial;have hq3:True:=trivial;have hq1:True:=trivial;obtain ⟨r,hr⟩:∃r,orS l=r:=⟨_,rfl⟩
 rw[hr];refine Ac func38 ?_;refine Wk (An @hq1 (An @hq2 (An @hq3 qAQ11.1))) @cmpS_c ?_;refine AWp.loop (τ:=ren []) (fun k:Nat=>mkSt [(6,.e (.c (.v (.s 1 (l.map fun n=>[V.x (.int .i64 n)]))))),(2,I 0),(3,I 0),(7,I l.length),(8,I k)] [] 0) (fun k=>k<=l.length/\orS (l.drop k)=r) (fun k=>l.length - k) 0 ⟨Nat.zero_le _,hr⟩ (by refine Le.of (τ:=[]) (ν:=[]) (by kernel_rfl) ?_ ?_<;>((refine Lw (An @hq1 (An @hq2 (An @hq3 qAQ11.1))) ?_;try exact ⟨⟩);try omega)) fun k hk=>?_;obtain ⟨hk,hr2⟩:=hk;by_cases hkl:k<l.length
 .obtain ⟨x,hx⟩:∃x,l.getD k 0=x:=⟨_,rfl⟩
  have hq1:=hx
  have hd:l.drop k=x::l.drop (k+1):=by
   rw[<-hx,List.getD_eq_getElem?_getD,List.getElem?_eq_getElem hkl];exact List.drop_eq_getElem_cons hkl
  rw[hd]at hr2;refine Wk (An @hq1 (An @hq2 (An @hq3 qAQ11.1))) @cmpS_c ?_;refine Cb ?_ ?_<;>intro hc<;>(try exact ⟨⟩)
  .refine Wk (An @hq1 (An @hq2 (An @hq3 qAQ11.1))) @cmpS_c ?_;refine Cb ?_ ?_<;>intro hc<;>(try exact ⟨⟩)
   .have e:x=r:=by rw[<-hr2];show x=if x≠0 then x else _;rw[if_pos hc]
    subst e;refine Wk (An @hq1 (An @hq2 (An @hq3 qAQ11.1))) @cmpS_c ?_;refine Fn @results38 (An @hq1 (An @hq2 (An @hq3 qAQ11.1))) ?_;try exact ⟨⟩
   .refine Wk (An @hq1 (An @hq2 (An @hq3 qAQ11.1))) @cmpS_c ?_;refine Za (τ:=ren []) (ν:=[]) (k+1) ⟨hkl,by rw[<-hr2];show _=if x≠0 then x else _;rw[if_neg (fun h=>h hc)]⟩ (by omega) ?_;refine Le.of (by kernel_rfl) ?_ ?_<;>((refine Lw (An @hq1 (An @hq2 (An @hq3 qAQ11.1))) ?_;try exact ⟨⟩);try omega)
  .omega
 .obtain rfl:k=l.length:=by omega
  rw[List.drop_length]at hr2;have e:r=0:=hr2.symm;subst e;refine Wk (An @hq1 (An @hq2 (An @hq3 qAQ11.1))) @cmpS_c ?_;refine Cb ?_ ?_<;>intro hc<;>(try exact ⟨⟩)
  .omega
  .refine Wk (An @hq1 (An @hq2 (An @hq3 qAQ11.1))) @cmpS_c ?_;refine Fn @results38 (An @hq1 (An @hq2 (An @hq3 qAQ11.1))) ?_;try exact ⟨⟩
theorem or_c (a b:Int):ACall prog 38 [] [.e (.c (.v (.s 1 [[V.x (.int .i64 a)],[V.x (.int .i64 b)]])))] (I (if a≠0 then a else b)) []:=by
 have h:=or_g [a,b] (by simp)
 have e:orS [a,b]=if a≠0 then a else b:=by
  show (if a≠0 then a else if b≠0 then b else 0)=_;by_cases hb:b≠0
  .rw[if_pos hb]
  .rw[if_neg hb,show b=0 by omega]
 rw[e]at h;exact h
theorem Zd (a b:Pos):ACall prog 43 [] [pD a,pD b] (I (cmpP a b)) []:=by
 have hq1:True:=trivial;have hq2:True:=trivial;have hq3:True:=trivial;have hor:=or_c (cmpS a.acc b.acc) (cmpS a.sym b.sym);refine Ac func43 ?_;refine Wk (An @hq1 (An @hq2 (An @hq3 qAQ11.1))) (An @hor @cmpS_c) ?_;refine Fn @results43 (An @hq1 (An @hq2 (An @hq3 qAQ11.1))) ?_;try exact ⟨⟩
 rfl
theorem cmpP_eq {a b:Pos}:cmpP a b=0↔a.acc=b.acc/\a.sym=b.sym:=by
 unfold cmpP;by_cases h:cmpS a.acc b.acc=0
 .rw[if_neg (fun x=>x h),Z5,<-Z5 (a:=a.acc)];exact ⟨fun x=>⟨h,x⟩,fun x=>x.2⟩
 .rw[if_pos h];exact ⟨fun x=>absurd x h,fun x=>absurd (Z5.2 x.1) h⟩
theorem cmpP_swap (b a:Pos):cmpP b a=- cmpP a b:=by
 unfold cmpP;rcases cmpS_cases a.acc b.acc with ⟨h1,h2⟩|⟨h1,h2⟩|⟨h1,h2⟩
 .rw[if_pos (by omega),if_pos (by omega)];omega
 .have h3:cmpS b.acc a.acc=0:=Z5.2 h2.symm;rw[if_neg (by omega),if_neg (by omega)];rcases cmpS_cases a.sym b.sym with ⟨h1,h2⟩|⟨h1,h2⟩|⟨h1,h2⟩
  .omega
  .have:=Z5.2 h2.symm;omega
  .omega
 .rw[if_pos (by omega),if_pos (by omega)];omega
theorem cmpP_trans {a b c:Pos} (h1:cmpP a b<0) (h2:cmpP b c<0):cmpP a c<0:=by
 have tr:∀ {x y z:ByteArray},cmpS x y<0->cmpS y z<0->cmpS x z<0:=fun h1 h2=>cmpS_lt.2 (bl_trans _ _ _ (cmpS_lt.1 h1) (cmpS_lt.1 h2));unfold cmpP at *;by_cases e1:cmpS a.acc b.acc=0
 .rw[if_neg (fun x=>x e1)]at h1;have ha:=Z5.1 e1;rw[ha];by_cases e2:cmpS b.acc c.acc=0
  .rw[if_neg (fun x=>x e2)]at h2 ⊢;exact tr h1 h2
  .rw[if_pos e2]at h2 ⊢;exact h2
 .rw[if_pos e1]at h1;by_cases e2:cmpS b.acc c.acc=0
  .have hb:=Z5.1 e2;rw[<-hb,if_pos e1];exact h1
  .rw[if_pos e2]at h2;have:=tr h1 h2;rw[if_pos (by omega)];exact this
end NA
namespace NA
theorem pR_set (l:List Pos) (i:Nat) (x:Pos):(pR l).set i [V.x (.string x.acc),V.x (.string x.sym),V.x (.int .i64 x.qty),V.x (.int .i64 x.value),V.x (.bool x.over)]=pR (l.set i x):=by
 unfold pR;rw[List.map_set]
theorem pR_store (m:List Pos) (i:Nat) (y:Pos):(pR m).set i (V.x (.string y.acc)::V.x (.string y.sym)::V.x (.int .i64 y.qty)::V.x (.int .i64 y.value)::V.x (.bool y.over)::List.drop 5 ((pR m).getD i []))=pR (m.set i y):=by
 have e:List.drop 5 ((pR m).getD i [])=[]:=by
  unfold pR;rw[List.getD_eq_getElem?_getD,List.getElem?_map];cases m[i]?<;>rfl
 rw[e];exact pR_set m i y
theorem rowAt_p (l:List Pos) (i:Nat):rowAt ty69 (pR l) i 0=[V.x (.string (l.getD i default).acc),V.x (.string (l.getD i default).sym),V.x (.int .i64 (l.getD i default).qty),V.x (.int .i64 (l.getD i default).value),V.x (.bool (l.getD i default).over)]:=by
 have hz:zeroV ty69=[.x (.string ⟨#[]⟩),.x (.string ⟨#[]⟩),.x (.int .i64 0),.x (.int .i64 0),.x (.bool false)]:=by kernel_rfl
 unfold rowAt pR;simp only[List.getD_eq_getElem?_getD,List.getElem?_map]
 cases l[i]? with
 | none=>simp only[Option.map_none,hz];rfl
 | some x=>rfl
def swp (l:List Pos) (i j:Nat):List Pos:=(l.set i (l.getD j default)).set j (l.getD i default)
theorem Z2 (l:List Pos) (i j:Nat):(swp l i j).length=l.length:=by unfold swp;simp
def insJ (a:Nat):Nat->List Pos->List Pos
 | 0,l=>l
 | j+1,l=>if a<j+1/\cmpP (l.getD (j+1) default) (l.getD j default)<0 then insJ a j (swp l (j+1) j) else l
def insI' (a:Nat):Nat->Nat->List Pos->List Pos
 | 0,_,l=>l
 | c+1,i,l=>insI' a c (i+1) (insJ a i l)
theorem insJ_len (a:Nat):∀(j:Nat) (l:List Pos),(insJ a j l).length=l.length
 | 0,l=>rfl
 | j+1,l=>by
  unfold insJ
  split
  .rw[insJ_len a j,Z2]
  .rfl
theorem insJ_stop {a j:Nat} {l:List Pos} (h:¬a<j):insJ a j l=l:=by
 cases j with
 | zero=>rfl
 | succ j=>rw[insJ,if_neg (fun h2=>h h2.1)]
def qAQ21:=PLift.up (An @evO_f (An @getD_pR (An @rowAt_p (An @pR_set (An @List.length_map.{0,0} (An @List.length_set.{0} (An @tn1 (An @Int.natCast_add (An @Int.natCast_one (An @Int.add_sub_cancel @Int.toNat_natCast))))))))))
theorem ins_c (l:List Pos) (a b:Nat) (hl:l.length<=1000000) (hab:a<=b/\b<=l.length) (r:List Pos) (hr:insI' a (b - (a+1)) (a+1) l=r) :
 ACall prog 173 [.row 5 (pR l)] [.e (.c (.o 0 l.length)),I a,I b,fD 43] (.t []) [.row 5 (pR r)]:=by
 have hq1:True:=trivial;have hq2:True:=trivial;have hq3:True:=trivial;obtain ⟨N,hN⟩:∃N,l.length=N:=⟨_,rfl⟩
 refine Ac func173 ?_;refine Wo (Own.mk (f:=(oF [42,111,173,174,222,260]))) (An @hq1 (An @hq2 (An @hq3 qAQ21.1))) (fun u1 u2 u3 u4 u5 u6 u7 u8 u9 u10=>Zd ⟨u1,u2,u3,u4,u5⟩ ⟨u6,u7,u8,u9,u10⟩) ?_;refine AWp.loop (τ:=ren []) (fun s:Nat×List Pos=>mkSt [(0,.e (.c (.o 0 N))),(1,I a),(2,I b),(3,fD 43),(8,I s.1)] [(0,.row 5 (pR s.2))] 1) (fun s=>a+1<=s.1/\(s.1<=b\/s.1=a+1)/\s.2.length=N/\insI' a (b - s.1) s.1 s.2=r) (fun s=>b - s.1) (a+1,l) ⟨by omega,.inr rfl,hN,hr⟩ (by rw[hN];refine Le.of (ν:=[]) (by kernel_rfl) ?_ ?_<;>((refine Lw (An @hq1 (An @hq2 (An @hq3 qAQ21.1))) ?_;try exact ⟨⟩);try omega)) fun s hs=>?_;obtain ⟨i,m⟩:=s;obtain ⟨hi1,hi2,hm,hres⟩:=hs;dsimp only at hi1 hi2 hm hres ⊢;by_cases hib:i<b
 .refine Wo (Own.mk (f:=(oF [42,111,173,174,222,260]))) (An @hq1 (An @hq2 (An @hq3 qAQ21.1))) (fun u1 u2 u3 u4 u5 u6 u7 u8 u9 u10=>Zd ⟨u1,u2,u3,u4,u5⟩ ⟨u6,u7,u8,u9,u10⟩) ?_;refine Cb ?_ ?_<;>intro hc<;>(try exact ⟨⟩)
  .obtain ⟨m2,hm2⟩:∃m2,insJ a i m=m2:=⟨_,rfl⟩
   have hres2:insI' a (b - (i+1)) (i+1) m2=r:=by
    rw[<-hm2,<-hres,show b - i=(b - (i+1))+1 by omega];rfl
   have hm2l:m2.length=N:=by rw[<-hm2,insJ_len,hm]
   refine Wo (Own.mk (f:=(oF [42,111,173,174,222,260]))) (An @hq1 (An @hq2 (An @hq3 qAQ21.1))) (fun u1 u2 u3 u4 u5 u6 u7 u8 u9 u10=>Zd ⟨u1,u2,u3,u4,u5⟩ ⟨u6,u7,u8,u9,u10⟩) ?_;refine AWp.loop (τ:=ren []) (fun s:Nat×List Pos=>mkSt [(0,.e (.c (.o 0 N))),(1,I a),(2,I b),(3,fD 43),(8,I i),(9,I s.1)] [(0,.row 5 (pR s.2))] 1) (fun s=>s.1<=i/\s.2.length=N/\insJ a s.1 s.2=m2) (fun s=>s.1) (i,m) ⟨Nat.le_refl _,hm,hm2⟩ (by refine Le.of (ν:=[]) (by kernel_rfl) ?_ ?_<;>((refine Lw (An @hq1 (An @hq2 (An @hq3 qAQ21.1))) ?_;try exact ⟨⟩);try omega)) fun s hs=>?_;clear hm hm2 hres;obtain ⟨j,m⟩:=s;obtain ⟨hj,hm,hm2⟩:=hs;dsimp only at hj hm hm2 ⊢;by_cases haj:a<j
   .obtain ⟨j,rfl⟩:∃k,j=k+1:=⟨j - 1,by omega⟩
    obtain ⟨x,hx⟩:∃x,m.getD (j+1) default=x:=⟨_,rfl⟩
    obtain ⟨y,hy⟩:∃y,m.getD j default=y:=⟨_,rfl⟩
    have hq1:=hx;have hq2:=hy;rw[insJ,hx,hy]at hm2;refine Wo (Own.mk (f:=(oF [42,111,173,174,222,260]))) (An @hq1 (An @hq2 (An @hq3 qAQ21.1))) (fun u1 u2 u3 u4 u5 u6 u7 u8 u9 u10=>Zd ⟨u1,u2,u3,u4,u5⟩ ⟨u6,u7,u8,u9,u10⟩) ?_;refine Cb ?_ ?_<;>intro hc<;>(try exact ⟨⟩)
    .rw[if_pos ⟨haj,hc.2⟩]at hm2;have hq3:(m.set (j+1) y).set j x=swp m (j+1) j:=by unfold swp;rw[hx,hy]
     refine Wo (Own.mk (f:=(oF [42,111,173,174,222,260]))) (An @hq1 (An @hq2 (An @hq3 qAQ21.1))) (fun u1 u2 u3 u4 u5 u6 u7 u8 u9 u10=>Zd ⟨u1,u2,u3,u4,u5⟩ ⟨u6,u7,u8,u9,u10⟩) ?_;refine Za (τ:=ren []) (ν:=[]) (j,swp m (j+1) j) ⟨by dsimp only;omega,by rw[Z2];exact hm,hm2⟩ (by dsimp only;omega) ?_;refine Le.of (by kernel_rfl) ?_ ?_<;>((refine Lw (An @hq1 (An @hq2 (An @hq3 qAQ21.1))) ?_;try exact ⟨⟩);try (first|omega|(rw[pR_store,pR_store,hq3])))
    .rw[if_neg (fun h=>by rcases hc with h1|h1;exact h1 (by omega);exact h1 h.2)]at hm2;subst hm2;refine Wo (Own.mk (f:=(oF [42,111,173,174,222,260]))) (An @hq1 (An @hq2 (An @hq3 qAQ21.1))) (fun u1 u2 u3 u4 u5 u6 u7 u8 u9 u10=>Zd ⟨u1,u2,u3,u4,u5⟩ ⟨u6,u7,u8,u9,u10⟩) ?_;refine Za (τ:=ren []) (ν:=[]) (i+1,m) ⟨by dsimp only;omega,.inl hib,hm,hres2⟩ (by dsimp only;omega) ?_;refine Le.of (by kernel_rfl) ?_ ?_<;>((refine Lw (An @hq1 (An @hq2 (An @hq3 qAQ21.1))) ?_;try exact ⟨⟩);try omega)
   .rw[insJ_stop haj]at hm2;subst hm2;refine Wo (Own.mk (f:=(oF [42,111,173,174,222,260]))) (An @hq1 (An @hq2 (An @hq3 qAQ21.1))) (fun u1 u2 u3 u4 u5 u6 u7 u8 u9 u10=>Zd ⟨u1,u2,u3,u4,u5⟩ ⟨u6,u7,u8,u9,u10⟩) ?_;refine Cb ?_ ?_<;>intro hc<;>(try exact ⟨⟩)
    .omega
    .refine Wo (Own.mk (f:=(oF [42,111,173,174,222,260]))) (An @hq1 (An @hq2 (An @hq3 qAQ21.1))) (fun u1 u2 u3 u4 u5 u6 u7 u8 u9 u10=>Zd ⟨u1,u2,u3,u4,u5⟩ ⟨u6,u7,u8,u9,u10⟩) ?_;refine Za (τ:=ren []) (ν:=[]) (i+1,m) ⟨by dsimp only;omega,.inl hib,hm,hres2⟩ (by dsimp only;omega) ?_;refine Le.of (by kernel_rfl) ?_ ?_<;>((refine Lw (An @hq1 (An @hq2 (An @hq3 qAQ21.1))) ?_;try exact ⟨⟩);try omega)
  .omega
 .rw[show b - i=0 by omega]at hres;refine Wo (Own.mk (f:=(oF [42,111,173,174,222,260]))) (An @hq1 (An @hq2 (An @hq3 qAQ21.1))) (fun u1 u2 u3 u4 u5 u6 u7 u8 u9 u10=>Zd ⟨u1,u2,u3,u4,u5⟩ ⟨u6,u7,u8,u9,u10⟩) ?_;refine Cb ?_ ?_<;>intro hc<;>(try exact ⟨⟩)
  .omega
  .refine Wo (Own.mk (f:=(oF [42,111,173,174,222,260]))) (An @hq1 (An @hq2 (An @hq3 qAQ21.1))) (fun u1 u2 u3 u4 u5 u6 u7 u8 u9 u10=>Zd ⟨u1,u2,u3,u4,u5⟩ ⟨u6,u7,u8,u9,u10⟩) ?_;obtain rfl:m=r:=hres;refine Fs @results173 ?_;refine ⟨[0],[],[],by kernel_rfl,?_,?_⟩<;>((refine Lw (An @hq1 (An @hq2 (An @hq3 qAQ21.1))) ?_;try exact ⟨⟩);try omega)
end NA
namespace NA
def swR (a b:Nat):Nat->Nat->List Pos->List Pos
 | 0,_,l=>l
 | c+1,i,l=>swR a b c (i+1) (swp l (a+i) (b+i))
theorem tnA (a b:Nat):((a:Int)+(b:Int)).toNat=a+b:=by omega
theorem swR_len (a b:Nat):∀(c i:Nat) (l:List Pos),(swR a b c i l).length=l.length
 | 0,_,l=>rfl
 | c+1,i,l=>by unfold swR;rw[swR_len a b c,Z2]
def qAQ31:=PLift.up (An @evO_f (An @getD_pR (An @rowAt_p (An @pR_set (An @List.length_map.{0,0} (An @List.length_set.{0} (An @tn1 (An @tnA @Int.toNat_natCast))))))))
theorem swap_c (l:List Pos) (N a b n:Nat) (hN:l.length=N) (hl:N<=1000000) (ha:a+n<=N) (hb:b+n<=N) (r:List Pos) (hr:swR a b n 0 l=r) :
 ACall prog 260 [.row 5 (pR l)] [.e (.c (.o 0 N)),I a,I b,I n,fD 43] (.t []) [.row 5 (pR r)]:=by
 have hq1:True:=trivial;have hq2:True:=trivial;have hq3:True:=trivial;have hq4:True:=trivial;have hsw:True:=trivial;refine Ac func260 ?_;refine Wo (Own.mk (f:=(oF [42,111,173,174,222,260]))) (An @hq1 (An @hq2 (An @hq3 (An @hq4 qAQ31.1)))) @hsw ?_;refine AWp.loop (τ:=ren []) (fun s:Nat×List Pos=>mkSt [(0,.e (.c (.o 0 N))),(1,I a),(2,I b),(3,I n),(10,I s.1)] [(0,.row 5 (pR s.2))] 1) (fun s=>s.1<=n/\s.2.length=N/\swR a b (n - s.1) s.1 s.2=r) (fun s=>n - s.1) (0,l) ⟨Nat.zero_le _,hN,hr⟩ (by refine Le.of (ν:=[]) (by kernel_rfl) ?_ ?_<;>((refine Lw (An @hq1 (An @hq2 (An @hq3 (An @hq4 qAQ31.1)))) ?_;try exact ⟨⟩);try omega)) fun s hs=>?_;clear hN hr;obtain ⟨i,m⟩:=s;obtain ⟨hi,hm,hres⟩:=hs;dsimp only at hi hm hres ⊢;by_cases hin:i<n
 .obtain ⟨x,hx⟩:∃x,m.getD (a+i) default=x:=⟨_,rfl⟩
  obtain ⟨y,hy⟩:∃y,m.getD (b+i) default=y:=⟨_,rfl⟩
  have hq1:=hx;have hq2:=hy;have hq3:(m.set (a+i) y).set (b+i) x=swp m (a+i) (b+i):=by unfold swp;rw[hx,hy]
  rw[show n - i=(n - (i+1))+1 by omega,swR]at hres;refine Wo (Own.mk (f:=(oF [42,111,173,174,222,260]))) (An @hq1 (An @hq2 (An @hq3 (An @hq4 qAQ31.1)))) @hsw ?_;refine Cb ?_ ?_<;>intro hc<;>(try exact ⟨⟩)
  .refine Wo (Own.mk (f:=(oF [42,111,173,174,222,260]))) (An @hq1 (An @hq2 (An @hq3 (An @hq4 qAQ31.1)))) @hsw ?_;refine Za (τ:=ren []) (ν:=[]) (i+1,swp m (a+i) (b+i)) ⟨hin,by rw[Z2];exact hm,hres⟩ (by dsimp only;omega) ?_;refine Le.of (by kernel_rfl) ?_ ?_<;>((refine Lw (An @hq1 (An @hq2 (An @hq3 (An @hq4 qAQ31.1)))) ?_;try exact ⟨⟩);try (first|omega|(rw[pR_store,pR_store,hq3])))
  .omega
 .obtain rfl:i=n:=by omega
  rw[Nat.sub_self]at hres;obtain rfl:m=r:=hres;refine Wo (Own.mk (f:=(oF [42,111,173,174,222,260]))) (An @hq1 (An @hq2 (An @hq3 (An @hq4 qAQ31.1)))) @hsw ?_;refine Cb ?_ ?_<;>intro hc<;>(try exact ⟨⟩)
  .omega
  .refine Wo (Own.mk (f:=(oF [42,111,173,174,222,260]))) (An @hq1 (An @hq2 (An @hq3 (An @hq4 qAQ31.1)))) @hsw ?_;refine Fs @results260 ?_;refine ⟨[0],[],[],by kernel_rfl,?_,?_⟩<;>((refine Lw (An @hq1 (An @hq2 (An @hq3 (An @hq4 qAQ31.1)))) ?_;try exact ⟨⟩);try omega)
def rotF (m i j:Nat) (l:List Pos):List Pos :=
 if i=0\/j=0 then l else
 if i=j then swR (m - i) m i 0 l else
 if j<i then rotF m (i - j) j (swR (m - i) m j 0 l) else rotF m i (j - i) (swR (m - i) (m+j - i) i 0 l)
termination_by i+j
decreasing_by all_goals omega
theorem rot_c (l:List Pos) (N a m b:Nat) (hN:l.length=N) (hl:N<=1000000) (ha:a<m) (hm:m<b) (hb:b<=N) (r:List Pos) (hr:rotF m (m - a) (b - m) l=r) :
 ACall prog 222 [.row 5 (pR l)] [.e (.c (.o 0 N)),I a,I m,I b,fD 43] (.t []) [.row 5 (pR r)]:=by
 have hq1:True:=trivial;have hq2:True:=trivial;have hq3:True:=trivial;have hq4:True:=trivial;have hsw:True:=trivial;refine Ac func222 ?_;refine Wo (Own.mk (f:=(oF [42,111,173,174,222,260]))) (An @hq1 (An @hq2 (An @hq3 (An @hq4 qAQ31.1)))) @hsw ?_;refine AWp.loop (τ:=ren []) (fun s:Nat×Nat×List Pos=>mkSt [(0,.e (.c (.o 0 N))),(2,I m),(4,fD 43),(10,I s.1),(11,I s.2.1)] [(0,.row 5 (pR s.2.2))] 1) (fun s=>0<s.1/\0<s.2.1/\s.1<=m/\m+s.2.1<=N/\s.2.2.length=N/\rotF m s.1 s.2.1 s.2.2=r) (fun s=>s.1+s.2.1) (m - a,b - m,l) ⟨by dsimp only;omega,by dsimp only;omega,by dsimp only;omega,by dsimp only;omega,hN,hr⟩ (by refine Le.of (ν:=[]) (by kernel_rfl) ?_ ?_<;>((refine Lw (An @hq1 (An @hq2 (An @hq3 (An @hq4 qAQ31.1)))) ?_;try exact ⟨⟩);try omega)) fun s hs=>?_;clear hN hr;obtain ⟨i,j,q⟩:=s;obtain ⟨hi,hj,him,hjm,hq,hres⟩:=hs;dsimp only at hi hj him hjm hq hres ⊢;rw[rotF,if_neg (by omega)]at hres;by_cases hij:i=j
 .subst hij;rw[if_pos rfl]at hres;have hsw:=swap_c q N (m - i) m i hq hl (by omega) (by omega) r hres;rw[show ((m - i:Nat):Int)=(m:Int) - (i:Int) by omega]at hsw;refine Wo (Own.mk (f:=(oF [42,111,173,174,222,260]))) (An @hq1 (An @hq2 (An @hq3 (An @hq4 qAQ31.1)))) @hsw ?_;refine Cb ?_ ?_<;>intro hc<;>(try exact ⟨⟩)
  .contradiction
  .refine Wo (Own.mk (f:=(oF [42,111,173,174,222,260]))) (An @hq1 (An @hq2 (An @hq3 (An @hq4 qAQ31.1)))) @hsw ?_;refine Fs @results222 ?_;refine ⟨[0],[],[],by kernel_rfl,?_,?_⟩<;>((refine Lw (An @hq1 (An @hq2 (An @hq3 (An @hq4 qAQ31.1)))) ?_;try exact ⟨⟩);try omega)
 .rw[if_neg hij]at hres;by_cases hlt:j<i
  .rw[if_pos hlt]at hres;have hsw:=swap_c q N (m - i) m j hq hl (by omega) (by omega) _ rfl;rw[show ((m - i:Nat):Int)=(m:Int) - (i:Int) by omega]at hsw;refine Wo (Own.mk (f:=(oF [42,111,173,174,222,260]))) (An @hq1 (An @hq2 (An @hq3 (An @hq4 qAQ31.1)))) @hsw ?_;refine Cb ?_ ?_<;>intro hc<;>(try exact ⟨⟩)
   .refine Wo (Own.mk (f:=(oF [42,111,173,174,222,260]))) (An @hq1 (An @hq2 (An @hq3 (An @hq4 qAQ31.1)))) @hsw ?_;refine Cb ?_ ?_<;>intro hc<;>(try exact ⟨⟩)
    .refine Wo (Own.mk (f:=(oF [42,111,173,174,222,260]))) (An @hq1 (An @hq2 (An @hq3 (An @hq4 qAQ31.1)))) @hsw ?_;refine Za (τ:=ren []) (ν:=[]) (i - j,j,swR (m - i) m j 0 q) ⟨by dsimp only;omega,hj,by dsimp only;omega,hjm,by rw[swR_len];exact hq,hres⟩ (by dsimp only;omega) ?_;refine Le.of (by kernel_rfl) ?_ ?_<;>((refine Lw (An @hq1 (An @hq2 (An @hq3 (An @hq4 qAQ31.1)))) ?_;try exact ⟨⟩);try omega)
    .omega
   .omega
  .rw[if_neg hlt]at hres;have hsw:=swap_c q N (m - i) (m+j - i) i hq hl (by omega) (by omega) _ rfl;rw[show ((m - i:Nat):Int)=(m:Int) - (i:Int) by omega,show ((m+j - i:Nat):Int)=(m:Int)+(j:Int) - (i:Int) by omega]at hsw;refine Wo (Own.mk (f:=(oF [42,111,173,174,222,260]))) (An @hq1 (An @hq2 (An @hq3 (An @hq4 qAQ31.1)))) @hsw ?_;refine Cb ?_ ?_<;>intro hc<;>(try exact ⟨⟩)
   .refine Wo (Own.mk (f:=(oF [42,111,173,174,222,260]))) (An @hq1 (An @hq2 (An @hq3 (An @hq4 qAQ31.1)))) @hsw ?_;refine Cb ?_ ?_<;>intro hc<;>(try exact ⟨⟩)
    .omega
    .refine Wo (Own.mk (f:=(oF [42,111,173,174,222,260]))) (An @hq1 (An @hq2 (An @hq3 (An @hq4 qAQ31.1)))) @hsw ?_;refine Za (τ:=ren []) (ν:=[]) (i,j - i,swR (m - i) (m+j - i) i 0 q) ⟨hi,by dsimp only;omega,him,by dsimp only;omega,by rw[swR_len];exact hq,hres⟩ (by dsimp only;omega) ?_;refine Le.of (by kernel_rfl) ?_ ?_<;>((refine Lw (An @hq1 (An @hq2 (An @hq3 (An @hq4 qAQ31.1)))) ?_;try exact ⟨⟩);try omega)
   .omega
end NA
namespace NA
def srch (Q:Nat->Bool) (lo hi:Nat):Nat :=
 if lo<hi then (if Q ((lo+hi) / 2)=true then srch Q ((lo+hi) / 2+1) hi else srch Q lo ((lo+hi) / 2)) else lo
termination_by hi - lo
decreasing_by all_goals omega
theorem srch_bd (Q:Nat->Bool):∀(n lo hi:Nat),hi - lo<=n->lo<=hi->lo<=srch Q lo hi/\srch Q lo hi<=hi:=by
 intro n
 induction n with
 | zero=>intro lo hi h1 h2;rw[srch,if_neg (by omega)];omega
 | succ n ih =>
  intro lo hi h1 h2;rw[srch]
  split
  .split
   .have:=ih ((lo+hi) / 2+1) hi (by omega) (by omega);omega
   .have:=ih lo ((lo+hi) / 2) (by omega) (by omega);omega
  .omega
def shU:Nat->Nat->List Pos->List Pos
 | 0,_,l=>l
 | c+1,k,l=>shU c (k+1) (swp l k (k+1))
def shD:Nat->Nat->List Pos->List Pos
 | 0,_,l=>l
 | c+1,k,l=>shD c (k - 1) (swp l k (k - 1))
def symF (l:List Pos) (a m b:Nat):List Pos :=
 if a<m/\m<b then
  if m - a=1 then shU (srch (fun h=>decide (cmpP (l.getD h default) (l.getD a default)<0)) m b - 1 - a) a l else
  if b - m=1 then shD (m - srch (fun h=>!decide (cmpP (l.getD m default) (l.getD h default)<0)) a m) m l else
  let mid:=(a+b) / 2
  let start:=srch (fun c=>!decide (cmpP (l.getD (mid+m - 1 - c) default) (l.getD c default)<0)) (if mid<m then mid+m - b else a) (if mid<m then mid else m)
  let l1:=if start<m/\m<mid+m - start then rotF m (m - start) (mid+m - start - m) l else l
  let l2:=if a<start/\start<mid then symF l1 a start mid else l1
  if mid<mid+m - start/\mid+m - start<b then symF l2 mid (mid+m - start) b else l2
 else l
termination_by b - a
decreasing_by all_goals omega
theorem rotF_len (m:Nat):∀(n i j:Nat) (l:List Pos),i+j<=n->(rotF m i j l).length=l.length:=by
 intro n
 induction n with
 | zero=>intro i j l h;rw[rotF,if_pos (by omega)]
 | succ n ih =>
  intro i j l h;rw[rotF]
  split
  .rfl
  .split
   .exact swR_len _ _ _ _ _
   .split
    .rw[ih _ _ _ (by omega),swR_len]
    .rw[ih _ _ _ (by omega),swR_len]
theorem shU_len:∀(c k:Nat) (l:List Pos),(shU c k l).length=l.length
 | 0,_,_=>rfl
 | c+1,k,l=>by unfold shU;rw[shU_len c,Z2]
theorem shD_len:∀(c k:Nat) (l:List Pos),(shD c k l).length=l.length
 | 0,_,_=>rfl
 | c+1,k,l=>by unfold shD;rw[shD_len c,Z2]
end NA
namespace NA
theorem tnS (k:Nat):((k:Int)+1 - 1)=(k:Int):=by omega
def qAQ51:=PLift.up (An @evO_f (An @getD_pR (An @rowAt_p (An @pR_set (An @List.length_map.{0,0} (An @List.length_set.{0} (An @tn1 (An @tnA (An @tnS @Int.toNat_natCast)))))))))
theorem sym1_c (l:List Pos) (N a m b:Nat) (hN:l.length=N) (hl:N<=1000000) (ha:m - a=1) (hm:m<b) (hb:b<=N) (r:List Pos)
 (hr:shU (srch (fun h=>decide (cmpP (l.getD h default) (l.getD a default)<0)) m b - 1 - a) a l=r) :
 ACall prog 174 [.row 5 (pR l)] [.e (.c (.o 0 N)),I a,I m,I b,fD 43] (.t []) [.row 5 (pR r)]:=by
 have hq1:True:=trivial;have hq2:True:=trivial;have hq3:True:=trivial;have hq4:True:=trivial;have hmid:True:=trivial;obtain ⟨Q,hQ⟩:∃Q:Nat->Bool,(fun h=>decide (cmpP (l.getD h default) (l.getD a default)<0))=Q:=⟨_,rfl⟩
 rw[hQ]at hr;obtain ⟨S,hS⟩:∃S,srch Q m b=S:=⟨_,rfl⟩
 have hSb:=srch_bd Q _ m b (Nat.le_refl _) (by omega);rw[hS]at hr hSb;refine Ac func174 ?_;refine Wo (Own.mk (f:=(oF [42,111,173,174,222,260]))) (An @hq1 (An @hq2 (An @hq3 (An @hq4 (An @hmid qAQ51.1))))) (fun u1 u2 u3 u4 u5 u6 u7 u8 u9 u10=>Zd ⟨u1,u2,u3,u4,u5⟩ ⟨u6,u7,u8,u9,u10⟩) ?_;refine Cb ?_ ?_<;>intro hc<;>(try exact ⟨⟩)
 .refine Wo (Own.mk (f:=(oF [42,111,173,174,222,260]))) (An @hq1 (An @hq2 (An @hq3 (An @hq4 (An @hmid qAQ51.1))))) (fun u1 u2 u3 u4 u5 u6 u7 u8 u9 u10=>Zd ⟨u1,u2,u3,u4,u5⟩ ⟨u6,u7,u8,u9,u10⟩) ?_;refine AWp.loop (τ:=ren []) (fun s:Nat×Nat=>mkSt [(0,.e (.c (.o 0 N))),(1,I a),(4,fD 43),(10,I s.1),(11,I s.2)] [(0,.row 5 (pR l))] 1) (fun s=>m<=s.1/\s.1<=s.2/\s.2<=b/\srch Q s.1 s.2=S) (fun s=>s.2 - s.1) (m,b) ⟨Nat.le_refl _,by dsimp only;omega,Nat.le_refl _,hS⟩ (by refine Le.of (ν:=[]) (by kernel_rfl) ?_ ?_<;>((refine Lw (An @hq1 (An @hq2 (An @hq3 (An @hq4 (An @hmid qAQ51.1))))) ?_;try exact ⟨⟩);try omega)) fun s hs=>?_;obtain ⟨lo,hi⟩:=s;obtain ⟨h1,h2,h3,h4⟩:=hs;dsimp only at h1 h2 h3 h4 ⊢;rw[srch]at h4;by_cases hlt:lo<hi
  .rw[if_pos hlt]at h4;have hmid:=mid_eq lo hi (by omega);obtain ⟨md,hmd⟩:∃md,(lo+hi) / 2=md:=⟨_,rfl⟩
   have hmb:lo<=md/\md<hi:=by omega
   rw[hmd]at hmid h4;clear hmd;have hQm:Q md=decide (cmpP (l.getD md default) (l.getD a default)<0):=by rw[<-hQ]
   refine Wo (Own.mk (f:=(oF [42,111,173,174,222,260]))) (An @hq1 (An @hq2 (An @hq3 (An @hq4 (An @hmid qAQ51.1))))) (fun u1 u2 u3 u4 u5 u6 u7 u8 u9 u10=>Zd ⟨u1,u2,u3,u4,u5⟩ ⟨u6,u7,u8,u9,u10⟩) ?_;refine Cb ?_ ?_<;>intro hc<;>(try exact ⟨⟩)
   .refine Wo (Own.mk (f:=(oF [42,111,173,174,222,260]))) (An @hq1 (An @hq2 (An @hq3 (An @hq4 (An @hmid qAQ51.1))))) (fun u1 u2 u3 u4 u5 u6 u7 u8 u9 u10=>Zd ⟨u1,u2,u3,u4,u5⟩ ⟨u6,u7,u8,u9,u10⟩) ?_;refine Cb ?_ ?_<;>intro hc<;>(try exact ⟨⟩)
    .rw[if_pos (by rw[hQm];exact decide_eq_true hc)]at h4;refine Wo (Own.mk (f:=(oF [42,111,173,174,222,260]))) (An @hq1 (An @hq2 (An @hq3 (An @hq4 (An @hmid qAQ51.1))))) (fun u1 u2 u3 u4 u5 u6 u7 u8 u9 u10=>Zd ⟨u1,u2,u3,u4,u5⟩ ⟨u6,u7,u8,u9,u10⟩) ?_;refine Za (τ:=ren []) (ν:=[]) (md+1,hi) ⟨by dsimp only;omega,by dsimp only;omega,h3,h4⟩ (by dsimp only;omega) ?_;refine Le.of (by kernel_rfl) ?_ ?_<;>((refine Lw (An @hq1 (An @hq2 (An @hq3 (An @hq4 (An @hmid qAQ51.1))))) ?_;try exact ⟨⟩);try omega)
    .rw[if_neg (by rw[hQm,decide_eq_true_eq];exact hc)]at h4;refine Wo (Own.mk (f:=(oF [42,111,173,174,222,260]))) (An @hq1 (An @hq2 (An @hq3 (An @hq4 (An @hmid qAQ51.1))))) (fun u1 u2 u3 u4 u5 u6 u7 u8 u9 u10=>Zd ⟨u1,u2,u3,u4,u5⟩ ⟨u6,u7,u8,u9,u10⟩) ?_;refine Za (τ:=ren []) (ν:=[]) (lo,md) ⟨h1,by dsimp only;omega,by dsimp only;omega,h4⟩ (by dsimp only;omega) ?_;refine Le.of (by kernel_rfl) ?_ ?_<;>((refine Lw (An @hq1 (An @hq2 (An @hq3 (An @hq4 (An @hmid qAQ51.1))))) ?_;try exact ⟨⟩);try omega)
   .omega
  .rw[if_neg hlt]at h4;subst h4;have hmid:True:=trivial;refine Wo (Own.mk (f:=(oF [42,111,173,174,222,260]))) (An @hq1 (An @hq2 (An @hq3 (An @hq4 (An @hmid qAQ51.1))))) (fun u1 u2 u3 u4 u5 u6 u7 u8 u9 u10=>Zd ⟨u1,u2,u3,u4,u5⟩ ⟨u6,u7,u8,u9,u10⟩) ?_;refine Cb ?_ ?_<;>intro hc<;>(try exact ⟨⟩)
   .omega
   .refine Wo (Own.mk (f:=(oF [42,111,173,174,222,260]))) (An @hq1 (An @hq2 (An @hq3 (An @hq4 (An @hmid qAQ51.1))))) (fun u1 u2 u3 u4 u5 u6 u7 u8 u9 u10=>Zd ⟨u1,u2,u3,u4,u5⟩ ⟨u6,u7,u8,u9,u10⟩) ?_;refine AWp.loop (τ:=ren []) (fun s:Nat×List Pos=>mkSt [(0,.e (.c (.o 0 N))),(10,I lo),(13,I s.1)] [(0,.row 5 (pR s.2))] 1) (fun s=>a<=s.1/\s.2.length=N/\shU (lo - 1 - s.1) s.1 s.2=r) (fun s=>lo - s.1) (a,l) ⟨Nat.le_refl _,hN,hr⟩ (by refine Le.of (ν:=[]) (by kernel_rfl) ?_ ?_<;>((refine Lw (An @hq1 (An @hq2 (An @hq3 (An @hq4 (An @hmid qAQ51.1))))) ?_;try exact ⟨⟩);try omega)) fun s hs=>?_;clear hr hN;obtain ⟨k,q⟩:=s;obtain ⟨hk,hq,hres⟩:=hs;dsimp only at hk hq hres ⊢;by_cases hkl:k<lo - 1
    .obtain ⟨x,hx⟩:∃x,q.getD k default=x:=⟨_,rfl⟩
     obtain ⟨y,hy⟩:∃y,q.getD (k+1) default=y:=⟨_,rfl⟩
     have hq1:=hx;have hq2:=hy;have hq3:(q.set k y).set (k+1) x=swp q k (k+1):=by unfold swp;rw[hx,hy]
     rw[show lo - 1 - k=(lo - 1 - (k+1))+1 by omega,shU]at hres;refine Wo (Own.mk (f:=(oF [42,111,173,174,222,260]))) (An @hq1 (An @hq2 (An @hq3 (An @hq4 (An @hmid qAQ51.1))))) (fun u1 u2 u3 u4 u5 u6 u7 u8 u9 u10=>Zd ⟨u1,u2,u3,u4,u5⟩ ⟨u6,u7,u8,u9,u10⟩) ?_;refine Cb ?_ ?_<;>intro hc<;>(try exact ⟨⟩)
     .refine Wo (Own.mk (f:=(oF [42,111,173,174,222,260]))) (An @hq1 (An @hq2 (An @hq3 (An @hq4 (An @hmid qAQ51.1))))) (fun u1 u2 u3 u4 u5 u6 u7 u8 u9 u10=>Zd ⟨u1,u2,u3,u4,u5⟩ ⟨u6,u7,u8,u9,u10⟩) ?_;refine Za (τ:=ren []) (ν:=[]) (k+1,swp q k (k+1)) ⟨by dsimp only;omega,by rw[Z2];exact hq,hres⟩ (by dsimp only;omega) ?_;refine Le.of (by kernel_rfl) ?_ ?_<;>((refine Lw (An @hq1 (An @hq2 (An @hq3 (An @hq4 (An @hmid qAQ51.1))))) ?_;try exact ⟨⟩);try (first|omega|(rw[pR_store,pR_store,hq3])))
     .omega
    .rw[show lo - 1 - k=0 by omega]at hres;obtain rfl:q=r:=hres;refine Wo (Own.mk (f:=(oF [42,111,173,174,222,260]))) (An @hq1 (An @hq2 (An @hq3 (An @hq4 (An @hmid qAQ51.1))))) (fun u1 u2 u3 u4 u5 u6 u7 u8 u9 u10=>Zd ⟨u1,u2,u3,u4,u5⟩ ⟨u6,u7,u8,u9,u10⟩) ?_;refine Cb ?_ ?_<;>intro hc<;>(try exact ⟨⟩)
     .omega
     .refine Wo (Own.mk (f:=(oF [42,111,173,174,222,260]))) (An @hq1 (An @hq2 (An @hq3 (An @hq4 (An @hmid qAQ51.1))))) (fun u1 u2 u3 u4 u5 u6 u7 u8 u9 u10=>Zd ⟨u1,u2,u3,u4,u5⟩ ⟨u6,u7,u8,u9,u10⟩) ?_;refine Fs @results174 ?_;refine ⟨[0],[],[],by kernel_rfl,?_,?_⟩<;>((refine Lw (An @hq1 (An @hq2 (An @hq3 (An @hq4 (An @hmid qAQ51.1))))) ?_;try exact ⟨⟩);try omega)
 .omega
end NA
namespace NA
def qAQ61:=PLift.up (An @evO_f (An @getD_pR (An @rowAt_p (An @pR_set (An @List.length_map.{0,0} (An @List.length_set.{0} (An @tn1 (An @tnA (An @tnS @Int.toNat_natCast)))))))))
theorem sym2_c (l:List Pos) (N a m b:Nat) (hN:l.length=N) (hl:N<=1000000) (ha:a<m) (ha1:¬m - a=1) (hm:b - m=1) (hb:b<=N) (r:List Pos)
 (hr:shD (m - srch (fun h=>!decide (cmpP (l.getD m default) (l.getD h default)<0)) a m) m l=r) :
 ACall prog 174 [.row 5 (pR l)] [.e (.c (.o 0 N)),I a,I m,I b,fD 43] (.t []) [.row 5 (pR r)]:=by
 have hq1:True:=trivial;have hq2:True:=trivial;have hq3:True:=trivial;have hq4:True:=trivial;have hmid:True:=trivial;obtain ⟨Q,hQ⟩:∃Q:Nat->Bool,(fun h=>!decide (cmpP (l.getD m default) (l.getD h default)<0))=Q:=⟨_,rfl⟩
 rw[hQ]at hr;obtain ⟨S,hS⟩:∃S,srch Q a m=S:=⟨_,rfl⟩
 have hSb:=srch_bd Q _ a m (Nat.le_refl _) (by omega);rw[hS]at hr hSb;refine Ac func174 ?_;refine Wo (Own.mk (f:=(oF [42,111,173,174,222,260]))) (An @hq1 (An @hq2 (An @hq3 (An @hq4 (An @hmid qAQ61.1))))) (fun u1 u2 u3 u4 u5 u6 u7 u8 u9 u10=>Zd ⟨u1,u2,u3,u4,u5⟩ ⟨u6,u7,u8,u9,u10⟩) ?_;refine Cb ?_ ?_<;>intro hc<;>(try exact ⟨⟩)
 .omega
 .refine Wo (Own.mk (f:=(oF [42,111,173,174,222,260]))) (An @hq1 (An @hq2 (An @hq3 (An @hq4 (An @hmid qAQ61.1))))) (fun u1 u2 u3 u4 u5 u6 u7 u8 u9 u10=>Zd ⟨u1,u2,u3,u4,u5⟩ ⟨u6,u7,u8,u9,u10⟩) ?_;refine Cb ?_ ?_<;>intro hc<;>(try exact ⟨⟩)
  .refine Wo (Own.mk (f:=(oF [42,111,173,174,222,260]))) (An @hq1 (An @hq2 (An @hq3 (An @hq4 (An @hmid qAQ61.1))))) (fun u1 u2 u3 u4 u5 u6 u7 u8 u9 u10=>Zd ⟨u1,u2,u3,u4,u5⟩ ⟨u6,u7,u8,u9,u10⟩) ?_;refine AWp.loop (τ:=ren []) (fun s:Nat×Nat=>mkSt [(0,.e (.c (.o 0 N))),(2,I m),(4,fD 43),(14,I s.1),(15,I s.2)] [(0,.row 5 (pR l))] 1) (fun s=>a<=s.1/\s.1<=s.2/\s.2<=m/\srch Q s.1 s.2=S) (fun s=>s.2 - s.1) (a,m) ⟨Nat.le_refl _,by dsimp only;omega,Nat.le_refl _,hS⟩ (by refine Le.of (ν:=[]) (by kernel_rfl) ?_ ?_<;>((refine Lw (An @hq1 (An @hq2 (An @hq3 (An @hq4 (An @hmid qAQ61.1))))) ?_;try exact ⟨⟩);try omega)) fun s hs=>?_;obtain ⟨lo,hi⟩:=s;obtain ⟨h1,h2,h3,h4⟩:=hs;dsimp only at h1 h2 h3 h4 ⊢;rw[srch]at h4;by_cases hlt:lo<hi
   .rw[if_pos hlt]at h4;have hmid:=mid_eq lo hi (by omega);obtain ⟨md,hmd⟩:∃md,(lo+hi) / 2=md:=⟨_,rfl⟩
    have hmb:lo<=md/\md<hi:=by omega
    rw[hmd]at hmid h4;clear hmd;have hQm:Q md=!decide (cmpP (l.getD m default) (l.getD md default)<0):=by rw[<-hQ]
    refine Wo (Own.mk (f:=(oF [42,111,173,174,222,260]))) (An @hq1 (An @hq2 (An @hq3 (An @hq4 (An @hmid qAQ61.1))))) (fun u1 u2 u3 u4 u5 u6 u7 u8 u9 u10=>Zd ⟨u1,u2,u3,u4,u5⟩ ⟨u6,u7,u8,u9,u10⟩) ?_;refine Cb ?_ ?_<;>intro hc<;>(try exact ⟨⟩)
    .refine Wo (Own.mk (f:=(oF [42,111,173,174,222,260]))) (An @hq1 (An @hq2 (An @hq3 (An @hq4 (An @hmid qAQ61.1))))) (fun u1 u2 u3 u4 u5 u6 u7 u8 u9 u10=>Zd ⟨u1,u2,u3,u4,u5⟩ ⟨u6,u7,u8,u9,u10⟩) ?_;refine Cb ?_ ?_<;>intro hc<;>(try exact ⟨⟩)
     .have hc':¬cmpP (l.getD m default) (l.getD md default)<0:=hc;rw[if_pos (by rw[hQm,decide_eq_false hc'];rfl)]at h4;refine Wo (Own.mk (f:=(oF [42,111,173,174,222,260]))) (An @hq1 (An @hq2 (An @hq3 (An @hq4 (An @hmid qAQ61.1))))) (fun u1 u2 u3 u4 u5 u6 u7 u8 u9 u10=>Zd ⟨u1,u2,u3,u4,u5⟩ ⟨u6,u7,u8,u9,u10⟩) ?_;refine Za (τ:=ren []) (ν:=[]) (md+1,hi) ⟨by dsimp only;omega,by dsimp only;omega,h3,h4⟩ (by dsimp only;omega) ?_;refine Le.of (by kernel_rfl) ?_ ?_<;>((refine Lw (An @hq1 (An @hq2 (An @hq3 (An @hq4 (An @hmid qAQ61.1))))) ?_;try exact ⟨⟩);try omega)
     .have hc':cmpP (l.getD m default) (l.getD md default)<0:=hc;rw[if_neg (by rw[hQm,decide_eq_true hc'];decide)]at h4;refine Wo (Own.mk (f:=(oF [42,111,173,174,222,260]))) (An @hq1 (An @hq2 (An @hq3 (An @hq4 (An @hmid qAQ61.1))))) (fun u1 u2 u3 u4 u5 u6 u7 u8 u9 u10=>Zd ⟨u1,u2,u3,u4,u5⟩ ⟨u6,u7,u8,u9,u10⟩) ?_;refine Za (τ:=ren []) (ν:=[]) (lo,md) ⟨h1,by dsimp only;omega,by dsimp only;omega,h4⟩ (by dsimp only;omega) ?_;refine Le.of (by kernel_rfl) ?_ ?_<;>((refine Lw (An @hq1 (An @hq2 (An @hq3 (An @hq4 (An @hmid qAQ61.1))))) ?_;try exact ⟨⟩);try omega)
    .omega
   .rw[if_neg hlt]at h4;subst h4;have hmid:True:=trivial;refine Wo (Own.mk (f:=(oF [42,111,173,174,222,260]))) (An @hq1 (An @hq2 (An @hq3 (An @hq4 (An @hmid qAQ61.1))))) (fun u1 u2 u3 u4 u5 u6 u7 u8 u9 u10=>Zd ⟨u1,u2,u3,u4,u5⟩ ⟨u6,u7,u8,u9,u10⟩) ?_;refine Cb ?_ ?_<;>intro hc<;>(try exact ⟨⟩)
    .omega
    .refine Wo (Own.mk (f:=(oF [42,111,173,174,222,260]))) (An @hq1 (An @hq2 (An @hq3 (An @hq4 (An @hmid qAQ61.1))))) (fun u1 u2 u3 u4 u5 u6 u7 u8 u9 u10=>Zd ⟨u1,u2,u3,u4,u5⟩ ⟨u6,u7,u8,u9,u10⟩) ?_;refine AWp.loop (τ:=ren []) (fun s:Nat×List Pos=>mkSt [(0,.e (.c (.o 0 N))),(14,I lo),(17,I s.1)] [(0,.row 5 (pR s.2))] 1) (fun s=>s.1<=m/\s.2.length=N/\shD (s.1 - lo) s.1 s.2=r) (fun s=>s.1) (m,l) ⟨Nat.le_refl _,hN,hr⟩ (by refine Le.of (ν:=[]) (by kernel_rfl) ?_ ?_<;>((refine Lw (An @hq1 (An @hq2 (An @hq3 (An @hq4 (An @hmid qAQ61.1))))) ?_;try exact ⟨⟩);try omega)) fun s hs=>?_;clear hr hN;obtain ⟨k,q⟩:=s;obtain ⟨hk,hq,hres⟩:=hs;dsimp only at hk hq hres ⊢;by_cases hkl:lo<k
     .obtain ⟨k,rfl⟩:∃k',k=k'+1:=⟨k - 1,by omega⟩
      obtain ⟨x,hx⟩:∃x,q.getD (k+1) default=x:=⟨_,rfl⟩
      obtain ⟨y,hy⟩:∃y,q.getD k default=y:=⟨_,rfl⟩
      have hq1:=hx;have hq2:=hy;have hq3:(q.set (k+1) y).set k x=swp q (k+1) k:=by unfold swp;rw[hx,hy]
      rw[show k+1 - lo=(k - lo)+1 by omega,shD,Nat.add_sub_cancel]at hres;rw[show ((k+1:Nat):Int)=(k:Int)+1 by omega];refine Wo (Own.mk (f:=(oF [42,111,173,174,222,260]))) (An @hq1 (An @hq2 (An @hq3 (An @hq4 (An @hmid qAQ61.1))))) (fun u1 u2 u3 u4 u5 u6 u7 u8 u9 u10=>Zd ⟨u1,u2,u3,u4,u5⟩ ⟨u6,u7,u8,u9,u10⟩) ?_;refine Cb ?_ ?_<;>intro hc<;>(try exact ⟨⟩)
      .refine Wo (Own.mk (f:=(oF [42,111,173,174,222,260]))) (An @hq1 (An @hq2 (An @hq3 (An @hq4 (An @hmid qAQ61.1))))) (fun u1 u2 u3 u4 u5 u6 u7 u8 u9 u10=>Zd ⟨u1,u2,u3,u4,u5⟩ ⟨u6,u7,u8,u9,u10⟩) ?_;refine Za (τ:=ren []) (ν:=[]) (k,swp q (k+1) k) ⟨by dsimp only;omega,by rw[Z2];exact hq,hres⟩ (by dsimp only;omega) ?_;refine Le.of (by kernel_rfl) ?_ ?_<;>((refine Lw (An @hq1 (An @hq2 (An @hq3 (An @hq4 (An @hmid qAQ61.1))))) ?_;try exact ⟨⟩);try (first|omega|(rw[pR_store,pR_store,hq3])))
      .omega
     .rw[show k - lo=0 by omega]at hres;obtain rfl:q=r:=hres;refine Wo (Own.mk (f:=(oF [42,111,173,174,222,260]))) (An @hq1 (An @hq2 (An @hq3 (An @hq4 (An @hmid qAQ61.1))))) (fun u1 u2 u3 u4 u5 u6 u7 u8 u9 u10=>Zd ⟨u1,u2,u3,u4,u5⟩ ⟨u6,u7,u8,u9,u10⟩) ?_;refine Cb ?_ ?_<;>intro hc<;>(try exact ⟨⟩)
      .omega
      .refine Wo (Own.mk (f:=(oF [42,111,173,174,222,260]))) (An @hq1 (An @hq2 (An @hq3 (An @hq4 (An @hmid qAQ61.1))))) (fun u1 u2 u3 u4 u5 u6 u7 u8 u9 u10=>Zd ⟨u1,u2,u3,u4,u5⟩ ⟨u6,u7,u8,u9,u10⟩) ?_;refine Fs @results174 ?_;refine ⟨[0],[],[],by kernel_rfl,?_,?_⟩<;>((refine Lw (An @hq1 (An @hq2 (An @hq3 (An @hq4 (An @hmid qAQ61.1))))) ?_;try exact ⟨⟩);try omega)
  .omega
end NA
end Eng
end Go.Proofs.YtgenjpingdkmgaaGreatDoor
