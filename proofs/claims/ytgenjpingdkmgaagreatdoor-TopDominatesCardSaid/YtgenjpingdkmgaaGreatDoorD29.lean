/- Contracts of functions that this seat's law calls. No condition. -/
import Derived.Test.YtgenjpingdkmgaaGreatDoorD28
set_option maxRecDepth 100000
set_option linter.unusedSimpArgs false
set_option linter.unusedVariables false
open Go.Proofs.Tryz
namespace Go.Proofs.YtgenjpingdkmgaaGreatDoor
namespace Eng
section
open NU
theorem shw (n:Int) (l:List UInt8) (h:okN n) (e:Lib.itoa n=l):showL n=l:=by rw[Yg h,e]
theorem shw_s:showL 35=[51,53]/\showL 34=[51,52]/\showL 52=[53,50]/\showL 17=[49,55]/\showL 11=[49,49]/\showL 55=[53,53]/\showL 54=[53,52]/\showL 32=[51,50]/\showL 31=[51,49]/\showL 60=[54,48] :=
 ⟨shw _ _ (by unfold okN;omega) (by kernel_rfl),shw _ _ (by unfold okN;omega) (by kernel_rfl),shw _ _ (by unfold okN;omega) (by kernel_rfl),shw _ _ (by unfold okN;omega) (by kernel_rfl),shw _ _ (by unfold okN;omega) (by kernel_rfl),shw _ _ (by unfold okN;omega) (by kernel_rfl),shw _ _ (by unfold okN;omega) (by kernel_rfl),shw _ _ (by unfold okN;omega) (by kernel_rfl),shw _ _ (by unfold okN;omega) (by kernel_rfl),shw _ _ (by unfold okN;omega) (by kernel_rfl)⟩
def fl1:List Fld:=[(35,s8),(34,str [49]),(52,str [48]),(17,str [101,49]),(11,str [111]),(1,str [97]),(55,str [115]),(54,s1),(150,str [49]),(32,str [55]),(31,str [53,48]),(60,str [49])]
def fl2:List Fld:=[(35,s8),(34,str [49]),(52,str [48]),(17,str [101,50]),(11,str [111]),(1,str [97]),(55,str [115]),(54,s1),(150,str [50]),(32,str [51]),(31,str [53,48]),(60,str [50])]
theorem ms1:msFl exE1=fl1:=by
 show ([((35:Int),s8)]++[((34:Int),str (showL 1))]++[((52:Int),str (showL 0))]++([(17,str [101,49])]++[]++[(11,str [111])]++[(1,str [97])]++[(55,str [115])]++[(54,s1)]++[(150,str (showL 1))]++[(32,str (showL 7))]++[(31,str (showL 50))]++[(60,str (showL 1))]):List Fld)=fl1;rw[shw_1,shw_0,shw_7,shw_50];rfl
theorem ms2:msFl exE2=fl2:=by
 show ([((35:Int),s8)]++[((34:Int),str (showL 1))]++[((52:Int),str (showL 0))]++([(17,str [101,50])]++[]++[(11,str [111])]++[(1,str [97])]++[(55,str [115])]++[(54,s1)]++[(150,str (showL 2))]++[(32,str (showL 3))]++[(31,str (showL 50))]++[(60,str (showL 2))]):List Fld)=fl2;rw[shw_1,shw_0,shw_2,shw_3,shw_50];rfl
def by1:List UInt8:=[51,53,61,56,1,51,52,61,49,1,53,50,61,48,1,49,55,61,101,49,1,49,49,61,111,1,49,61,97,1,53,53,61,115,1,53,52,61,49,1,49,53,48,61,49,1,51,50,61,55,1,51,49,61,53,48,1,54,48,61,49,1]
def by2:List UInt8:=[51,53,61,56,1,51,52,61,49,1,53,50,61,48,1,49,55,61,101,50,1,49,49,61,111,1,49,61,97,1,53,53,61,115,1,53,52,61,49,1,49,53,48,61,50,1,51,50,61,51,1,51,49,61,53,48,1,54,48,61,50,1]
theorem enc1:encL fl1=by1:=by
 obtain ⟨h35,h34,h52,h17,h11,h55,h54,h32,h31,h60⟩:=shw_s;unfold encL;simp only[fl1,List.map_cons,List.map_nil,encF,h35,h34,h52,h17,h11,h55,h54,h32,h31,h60,shw_1,shw_150];rfl
theorem enc2:encL fl2=by2:=by
 obtain ⟨h35,h34,h52,h17,h11,h55,h54,h32,h31,h60⟩:=shw_s;unfold encL;simp only[fl2,List.map_cons,List.map_nil,encF,h35,h34,h52,h17,h11,h55,h54,h32,h31,h60,shw_1,shw_150];rfl
theorem mp1:mputS exE1=(by1,0):=by
 have e:putF fl1=(by1,0):=by unfold putF;rw[if_pos ⟨by decide,by decide⟩,enc1]
 unfold mputS;rw[ms1,e];rfl
theorem mp2:mputS exE2=(by2,0):=by
 have e:putF fl2=(by2,0):=by unfold putF;rw[if_pos ⟨by decide,by decide⟩,enc2]
 unfold mputS;rw[ms2,e];rfl
theorem rs1:repS exE1=⟨(rpL by1).toArray⟩:=by unfold repS;rw[mp1]
theorem rs2:repS exE2=⟨(rpL by2).toArray⟩:=by unfold repS;rw[mp2]
def aE0:Ask:=⟨8,0,zOrd,⟨#[]⟩,zExe,0,false,limE⟩
def aE1:Ask:=⟨1,0,⟨str [111],str [97],str [115],true,7,50,0,false⟩,⟨#[]⟩,zExe,0,false,zLim⟩
def aE2:Ask:=⟨3,0,zOrd,⟨#[]⟩,exE1,0,false,zLim⟩
def aE3:Ask:=⟨3,0,zOrd,⟨#[]⟩,exE2,0,false,zLim⟩
theorem as0:asked8 wd0=aE0:=a0_eq
theorem as1:asked1 wd1=aE1:=by
 unfold asked1 nAt;rw[show numW (wd1.getD (1:Int).toNat [])=0 by decide,show numW (wd1.getD (6:Int).toNat [])=7 by decide,show numW (wd1.getD (7:Int).toNat [])=50 by decide];rfl
theorem as2:asked3 wd2 ⟨#[]⟩=aE2:=by
 unfold asked3 nAt;rw[show numW (wd2.getD (1:Int).toNat [])=0 by decide,show numW (wd2.getD (9:Int).toNat [])=7 by decide,show numW (wd2.getD (10:Int).toNat [])=50 by decide,show numW (wd2.getD (11:Int).toNat [])=1 by decide];rfl
theorem as3:asked3 wd3 ⟨#[]⟩=aE3:=by
 unfold asked3 nAt;rw[show numW (wd3.getD (1:Int).toNat [])=0 by decide,show numW (wd3.getD (9:Int).toNat [])=3 by decide,show numW (wd3.getD (10:Int).toNat [])=50 by decide,show numW (wd3.getD (11:Int).toNat [])=2 by decide];rfl
theorem enc_ne:∀(f:Fld) (l:List Fld),1<=(encL (f::l)).length:=fun f l=>by
 unfold encL;rw[List.map_cons,List.flatten_cons,List.length_append];unfold encF;simp only[List.length_append,List.length_cons,List.length_nil];omega
theorem put_of {a:Ask} (h:mayK a=true) (f:Fld) (l:List Fld) (e:fieldsK a=f::l) (h2:(f::l).all fldB=true):(putK a).2=0/\1<=(putK a).1.length:=by
 have hl:=fieldsK_len a
 have e2:putF (fieldsK a)=(encL (fieldsK a),0):=by
  unfold putF;rw[if_pos ⟨by omega,by rw[e];exact h2⟩]
 unfold putK;rw[if_pos h,e2,if_pos rfl,e];exact ⟨rfl,enc_ne f l⟩
theorem pt0:(putK aE0).2=0/\1<=(putK aE0).1.length:=put_of (as0 ▸ may0) (1,str (showL 8)) [(4,str [97]),(5,str [115]),(12,str (showL 10)),(13,str (showL 10)),(7,str (showL 10)),(8,str (showL 1000))] rfl (by rw[shw_8,shw_10,shw_1000];decide)
theorem pt1:(putK aE1).2=0/\1<=(putK aE1).1.length:=put_of (as1 ▸ may1) (1,str (showL 1)) [(2,str (showL 0)),(3,str [111]),(4,str [97]),(5,str [115]),(6,s1),(7,str (showL 7)),(8,str (showL 50))] rfl (by rw[shw_1,shw_0,shw_7,shw_50];decide)
theorem pt2:(putK aE2).2=0/\1<=(putK aE2).1.length:=put_of (as2 ▸ may2) (1,str (showL 3)) [(2,str (showL 0)),(9,repS exE1)] rfl (by rw[shw_3,shw_0,rs1];decide)
theorem pt3:(putK aE3).2=0/\1<=(putK aE3).1.length:=put_of (as3 ▸ may3) (1,str (showL 3)) [(2,str (showL 0)),(9,repS exE2)] rfl (by rw[shw_3,shw_0,rs2];decide)
theorem do_ok {k:Kee} {g g':Gat} {a:Ask} {n:Int} (hp:(putK a).2=0/\1<=(putK a).1.length) (hk:k.s0.length+k.t0.length<=40000) (ha:askG g a=(g',n,0)) :
 ∃k',doK k g a=((k',g'),n,0)/\k'.s0.length+k'.t0.length<=k.s0.length+k.t0.length+5000:=by
 have hl:=putK_len a
 have e:addK k (putK a).1=({ k with t0:=k.t0++ND.put (bytI (putK a).1) },0):=by
  unfold addK;rw[if_pos hp.2,if_pos (by omega)]
 refine ⟨{ k with t0:=k.t0++ND.put (bytI (putK a).1) },?_,?_⟩
 .unfold doK;rw[if_neg (by rw[hp.1];decide),ha,if_neg (fun h=>h rfl),e,if_neg (fun h=>h rfl)]
 .have h1:=ND.put_len (bytI (putK a).1);have h2:(bytI (putK a).1).length=(putK a).1.length:=by simp[bytI]
  show k.s0.length+(k.t0++ND.put (bytI (putK a).1)).length<=_;rw[List.length_append];omega
theorem ask0:askG (newG 1 100) aE0=(gE1,0,0):=by
 unfold askG;rw[if_neg (by decide),if_neg (by decide),if_neg (by decide),if_neg (by decide),if_neg (by decide),if_neg (by decide),if_neg (by decide),if_pos (by decide),show aE0.l=limE from rfl,ev1]
theorem ask1:askG gE1 aE1=(gE2,0,0):=by unfold askG;rw[if_pos (by decide)];exact ev2
theorem ask2:askG gE2 aE2=(gE3,1,0):=by unfold askG;rw[if_neg (by decide),if_neg (by decide),if_pos (by decide)];exact ev3
theorem ask3:askG gE3 aE3=(gE4,1,0):=by unfold askG;rw[if_neg (by decide),if_neg (by decide),if_pos (by decide)];exact ev4
end
section
open NU
def colS:ByteArray:=⟨#[58]⟩
theorem sz1:ByteArray.size ⟨#[58]⟩=1:=rfl
def qDQ1:=PLift.up (An @NA.getD_pR (An @Zh (An @sz1 (An @ByteArray.size_append @List.getD_cons_zero.{0}))))
theorem dpos_c (k:Kee) (g:Gat) (hg:gatP g) (hl:(listsG g).flatten.length<=1000) (p:NA.Pos) (hp:posG g=[p]) (ho:p.over=false) (ha:p.acc.size<=100) (hs:p.sym.size<=100) (h1:(str (showL p.qty)).size<=1000) (h2:(str (showL p.value)).size<=1000) (x:ByteArray)
 (T:ByteArray) (hT:p.acc++colS++p.sym++colS++(strN p.qty++colS++strN p.value)=T) :
 ACall prog 190 [.loc (keC k g)] [.p 0 0,ssD [x]] (StD T) [.loc (keC k g)]:=by
 have hgp:=gpos_c g hg hl [p] hp;obtain ⟨a,s,q,v,o⟩:=p;dsimp only at ho ha hs h1 h2 hT;subst ho;have hsz1:True:=trivial;have hsz2:True:=trivial;refine Ac func190 ?_;refine Wk qDQ1.1 (An @hgp @NU.Z0) ?_;refine Cb ?_ ?_<;>intro hc<;>(try exact ⟨⟩)
 .contradiction
 .refine Wk qDQ1.1 (An @hgp @NU.Z0) ?_
  refine AWp.loop (fun i:Nat=>mkSt [(0,.p 0 0),(5,.e (.c (.o 1 i))),(20,NA.psD [⟨a,s,q,v,false⟩]),(21,I 1),(22,I i)] [(0,.loc (keC k g)),(1,.row 1 (sR (List.replicate i T)))] 2)
   (fun i=>i<=1) (fun i=>1 - i) 0 (Nat.zero_le _) (by refine Le.of (τ:=[]) (ν:=[1]) (by kernel_rfl) ?_ ?_<;>((refine Lw qDQ1.1 ?_;try exact ⟨⟩);try (first|omega|rfl))) fun i hi=>?_
  refine Wk qDQ1.1 (An @hgp @NU.Z0) ?_;refine Cb ?_ ?_<;>intro hc<;>(try exact ⟨⟩)
  .obtain rfl:i=0:=by omega
   refine Wk qDQ1.1 (An @hgp @NU.Z0) ?_;refine Cb ?_ ?_<;>intro hc<;>(try exact ⟨⟩)
   .refine Wk qDQ1.1 (An @hgp @NU.Z0) ?_;refine Za 1 (Nat.le_refl _) (by omega) (by refine Le.of (τ:=[(1,1858)]) (ν:=[]) (by kernel_rfl) ?_ ?_<;>((refine Lw qDQ1.1 ?_;try exact ⟨⟩);try (first|omega|(refine ⟨?_,rfl⟩;omega)|rfl|(rw[<-hT];rfl))))
   .contradiction
  .obtain rfl:i=1:=by omega
   have hjs:joinS [T] spS=T:=by unfold joinS;rw[List.map_cons,List.map_nil,Lib.join_one]
   have hjoin:=join_c [T] spS (by simp) (by rw[hjs,<-hT];simp only[ByteArray.size_append];show a.size+1+s.size+1+((str (showL q)).size+1+(str (showL v)).size)<=1000000;omega);rw[hjs]at hjoin;refine Wk qDQ1.1 (An @hgp (An @hjoin @NU.Z0)) ?_;refine Cb ?_ ?_<;>intro hc<;>(try exact ⟨⟩)
   .contradiction
   .refine Wk qDQ1.1 (An @hgp (An @hjoin @NU.Z0)) ?_;refine Fs @results190 ?_;refine ⟨[0],[],[],by kernel_rfl,?_,?_⟩<;>((refine Lw qDQ1.1 ?_;try exact ⟨⟩);try (first|omega|rfl))
end
section
open NU
theorem mul150:NA.mulS 3 50=(150,true):=by
 unfold NA.mulS;rw[if_pos];· rfl
 .unfold NA.okN;omega
theorem posE:posN bkE2 ⟨str [97],str [115]⟩=⟨str [97],str [115],3,150,false⟩:=by
 have hf:bkE2.fills.filter (selF (str [97]) (str [115]))=[filX exE2]:=rfl;have hm:mulF (filX exE2)=(150,true):=mul150;show posL (str [97]) (str [115]) (bkE2.fills.filter (selF (str [97]) (str [115])))=_;rw[hf];unfold posL;rw[show [filX exE2].map sgnF=[3] from rfl,show [filX exE2].map (fun f=>(mulF f).1)=[(mulF (filX exE2)).1] from rfl,hm,NA.sumS_one (by unfold NA.okN;omega),NA.sumS_one (by unfold NA.okN;omega),if_pos];exact ⟨fun f hf=>by rw[List.mem_singleton.1 hf,hm],rfl,rfl⟩
theorem lall4:lallF bkE2=[⟨str [97],str [115],3,150,false⟩]:=by
 have h1:sortN (namesF bkE2)=[⟨str [97],str [115]⟩]:=List.mergeSort_singleton _;unfold lallF;rw[h1,show dedN [(⟨str [97],str [115]⟩:Nam)]=[⟨str [97],str [115]⟩] from rfl,List.map_cons,List.map_nil,posE]
theorem lists4:listsG gE4=[[⟨str [97],str [115],3,150,false⟩]]:=by
 show [lallF bkE2]=_;rw[lall4]
theorem pos4:posG gE4=[⟨str [97],str [115],3,150,false⟩]:=by
 have h:NA.rgtP [⟨str [97],str [115],3,150,false⟩]:=fun i hi=>by
  obtain rfl:i=0:=by simp at hi;omega
  exact ⟨fun h=>absurd h (Nat.lt_irrefl _),by unfold NA.okN;exact ⟨by decide,by decide⟩,by unfold NA.okN;exact ⟨by decide,by decide⟩,fun h=>by cases h⟩
 unfold posG;rw[lists4,NA.allS_one h,if_neg (fun h=>h rfl)]
theorem wj0:joinS (words8 aE0) spS=str (lnS.getD 0 []):=by
 have:words8 aE0=[str (asksL.getD 8 []),str [97],str [115],str [49,48],str [49,48],str [49,48],str [49,48,48,48]]:=by
  show [_,_,_,str (showL 10),str (showL 10),str (showL 10),str (showL 1000)]=_;rw[shw_10,shw_1000];rfl
 exact (congrArg (fun l=>joinS l spS) this).trans (by kernel_rfl)
theorem wj1:joinS (words1 aE1) spS=str (lnS.getD 1 []):=by
 have:words1 aE1=[str (asksL.getD 1 []),str [48],str [111],str [97],str [115],str [98,117,121],str [55],str [53,48]]:=by
  show [_,str (showL 0),_,_,_,_,str (showL 7),str (showL 50)]=_;rw[shw_0,shw_7,shw_50];rfl
 exact (congrArg (fun l=>joinS l spS) this).trans (by kernel_rfl)
theorem wj2:joinS (words31 aE2) spS=str (lnS.getD 2 []):=by
 have:words31 aE2=[str (asksL.getD 3 []),str [48],str (execsL.getD 1 []),str [101,49],str [45],str [111],str [97],str [115],str [98,117,121],str [55],str [53,48],str [49]]:=by
  show [_,str (showL 0),_,_,_,_,_,_,_,str (showL 7),str (showL 50),str (showL 1)]=_;rw[shw_0,shw_7,shw_50,shw_1];rfl
 exact (congrArg (fun l=>joinS l spS) this).trans (by kernel_rfl)
theorem wj3:joinS (words32 aE3) spS=str (lnS.getD 3 []):=by
 have:words32 aE3=[str (asksL.getD 3 []),str [48],str (execsL.getD 2 []),str [101,50],str [45],str [111],str [97],str [115],str [98,117,121],str [51],str [53,48],str [50]]:=by
  show [_,str (showL 0),_,_,_,_,_,_,_,str (showL 3),str (showL 50),str (showL 2)]=_;rw[shw_0,shw_3,shw_50,shw_2];rfl
 exact (congrArg (fun l=>joinS l spS) this).trans (by kernel_rfl)
theorem works_c:ACall prog 6 [] [] (B true) []:=by
 have hg0:gatP (newG 1 100):=newG_right (by omega) (by omega) (by unfold timeP;omega);have hk0:=newE_right 1 100
 have hs0:(newE 1 100).s0.length+(newE 1 100).t0.length<=1000:=by
  show (ND.put (ND.first 1 [])).length+0<=1000;rw[ND.put_len,ND.first_len];decide
 obtain ⟨k1,e1,l1⟩:=do_ok (k:=newE 1 100) pt0 (by omega) ask0;have r1:=doK_right (a:=aE0) hk0 hg0;rw[e1]at r1;obtain ⟨k2,e2,l2⟩:=do_ok (k:=k1) pt1 (by omega) ask1;have r2:=doK_right (a:=aE1) r1.1 r1.2;rw[e2]at r2;obtain ⟨k3,e3,l3⟩:=do_ok (k:=k2) pt2 (by omega) ask2;have r3:=doK_right (a:=aE2) r2.1 r2.2;rw[e3]at r3;obtain ⟨k4,e4,l4⟩:=do_ok (k:=k3) pt3 (by omega) ask3;have r4:=doK_right (a:=aE3) r3.1 r3.2;rw[e4]at r4;dsimp only at r1 r2 r3 r4;let ke:Nat->Kee:=fun i=>[newE 1 100,k1,k2,k3,k4,k4,k4].getD i k4
 let ga:Nat->Gat:=fun i=>[newG 1 100,gE1,gE2,gE3,gE4,gE4,gE4].getD i gE4
 let T:Nat->ByteArray:=fun i=>[⟨#[111,107]⟩,⟨#[108,101,116]⟩,⟨(Lib.decDigits 1).toArray⟩,⟨(Lib.decDigits 1).toArray⟩,str [97,58,115,58,51,58,49,53,48],str [55,32,48]].getD i default
 have hrun:=play_run script (by decide) (by decide) lnS ln_script ke ga T rfl rfl (fun i hi=>by
  have:i<6:=hi
  match i,this with
  | 0,_=>exact ⟨_,_,rfl,by decide⟩
  | 1,_=>exact ⟨_,_,rfl,by decide⟩
  | 2,_=>exact ⟨_,_,rfl,by decide⟩
  | 3,_=>exact ⟨_,_,rfl,by decide⟩
  | 4,_=>exact ⟨_,_,rfl,by decide⟩
  | 5,_=>exact ⟨_,_,rfl,by decide⟩) (fun i hi=>by
  have:i<6:=hi
  match i,this with
  | 0,_ =>
   rw[wd0_eq];have hsh:=tshow_c aE0 (words8 aE0) (words8_c aE0) (Nat.le_of_ble_eq_true rfl) (by rw[wj0];decide) pt0.1;rw[wj0]at hsh;have hpa:=tparse_c (lnS.getD 0 []) (by decide) wd0 wd0_eq 8 pl8 (by decide) aE0 (as0 ▸ asked8_c wd0 (by decide) (by decide)) hsh
   exact dask8_c (newE 1 100) (newG 1 100) hk0 hg0 (wd0.map str) (by decide) (lnS.getD 0 []) (by decide) (by kernel_rfl) aE0 (by decide) hpa _ e1 rfl
  | 1,_ =>
   rw[wd1_eq];have hsh:=tshow_c aE1 (words1 aE1) (words1_c aE1) (Nat.le_of_ble_eq_true rfl) (by rw[wj1];decide) pt1.1;rw[wj1]at hsh;have hpa:=tparse_c (lnS.getD 1 []) (by decide) wd1 wd1_eq 1 pl1 (by decide) aE1 (as1 ▸ asked1_c wd1 (by decide) (by decide)) hsh
   exact dask1_c k1 gE1 r1.1 r1.2 (wd1.map str) (by decide) (lnS.getD 1 []) (by decide) (by kernel_rfl) aE1 (by decide) hpa _ e2 rfl rfl
  | 2,_ =>
   rw[wd2_eq];have hsh:=tshow_c aE2 (words31 aE2) (words31_c aE2) (Nat.le_of_ble_eq_true rfl) (by rw[wj2];decide) pt2.1;rw[wj2]at hsh;have hpa:=tparse_c (lnS.getD 2 []) (by decide) wd2 wd2_eq 3 pl3 (by decide) aE2 (as2 ▸ asked3_c wd2 (by decide) (by decide) ⟨#[]⟩ (by decide)) hsh
   exact dask3_c k2 gE2 r2.1 r2.2 (wd2.map str) (by decide) (lnS.getD 2 []) (by decide) (by kernel_rfl) aE2 (by decide) hpa _ e3 rfl 1 (by decide) rfl
  | 3,_ =>
   rw[wd3_eq];have hsh:=tshow_c aE3 (words32 aE3) (words32_c aE3) (Nat.le_of_ble_eq_true rfl) (by rw[wj3];decide) pt3.1;rw[wj3]at hsh;have hpa:=tparse_c (lnS.getD 3 []) (by decide) wd3 wd3_eq 3 (by decide) (by decide) aE3 (as3 ▸ asked3_c wd3 (by decide) (by decide) ⟨#[]⟩ (by decide)) hsh
   exact dask3_c k3 gE3 r3.1 r3.2 (wd3.map str) (by decide) (lnS.getD 3 []) (by decide) (by kernel_rfl) aE3 (by decide) hpa _ e4 rfl 1 (by decide) rfl
  | 4,_ =>
   rw[wd4_eq]
   exact dpos_c k4 gE4 r4.2 (by rw[lists4];decide) _ pos4 rfl (by decide) (by decide) (by rw[shw_3];decide) (by rw[shw_150];decide) _ _ (by show (str [97]++colS++str [115]++colS++(str (showL 3)++colS++str (showL 150)):ByteArray)=str [97,58,115,58,51,58,49,53,48];rw[shw_3,shw_150];rfl)
  | 5,_ =>
   rw[wd5_eq];have h:=dworst_c k4 gE4 r4.2 (str [119,111,114,115,116]) (str [97]) (str [115]) (by decide) (by decide) (by rw[ev5,shw_7];decide) (by rw[ev5,shw_0];decide);rw[ev5]at h;replace h:ACall prog 189 [.loc (keC k4 gE4)] [.p 0 0,ssD [str [119,111,114,115,116],str [97],str [115]]] (StD (str (showL 7)++(⟨#[32]⟩:ByteArray)++str (showL 0))) [.loc (keC k4 gE4)]:=h;rw[shw_7,shw_0]at h
   exact h)
 refine works_of ((List.range 6).map T) (Play_run _ _ _ hrun) rfl rfl rfl
end
theorem topDominates_c (ls:List NA.Lim) (l:List Trd) (h:∀t,t∈l->t.kind<=255/\t.at_<=255/\t.qty<=255):ACall prog 5 [] [NA.lsD ls,tsD l] (B true) []:=dom_run works_c ls l h
end Eng
end Go.Proofs.YtgenjpingdkmgaaGreatDoor
