/- Contracts of functions that this seat's law calls. No condition. -/
import Derived.Test.YtgenjpingdkmgaaGreatDoorG28
set_option maxRecDepth 100000
set_option linter.unusedSimpArgs false
set_option linter.unusedVariables false
namespace Go.Proofs.YtgenjpingdkmgaaGreatDoor
namespace Eng
noncomputable def listsG (g:Gat):List (List NA.Pos):=g.vens.map fun v=>lallF v.bk
noncomputable def posG (g:Gat):List NA.Pos:=if (NA.allS (listsG g)).2≠0 then [] else (NA.allS (listsG g)).1
theorem LR_app (l:List (List NA.Pos)) (x:List NA.Pos) (i:Nat) (h:l.length≤i):NA.LR (l++[x])=List.take i (NA.LR l)++[[V.s 5 (NA.pR x)]]:=by
 rw[List.take_of_length_le (by rw[List.length_map];exact h)]
 exact List.map_append
def qGQ1:=PLift.up (An @getD_vR (An @List.map_append.{0,0} (An @List.map_cons.{0,0} (An @List.map_nil.{0,0} (An @List.length_append.{0} (An @List.length_cons.{0} (An @List.length_nil.{0} @List.length_map.{0,0})))))))
theorem gpos_c (g:Gat) (h:gatP g) (hl:(listsG g).flatten.length≤1000) (r:List NA.Pos) (hr:posG g=r):ACall Tryz.prog 11 [] [gtD g] (NA.psD r) []:=by
 have hright:=gateR_c g h
 have hvl:=h.n
 refine Ac Tryz.func11 ?_
 refine Wk qGQ1.1 @hright ?_
 refine Cc ?_ ?_<;>intro hc<;>(try simp only[Za,ne_eq]at hc)
 ·contradiction
 ·refine Wk qGQ1.1 @hright ?_
  refine AWp.loop (fun i:Nat=>mkSt [(3,.e (.c (.o 0 i))),(12,.e (.c (.v (.s 8 (vR g.vens))))),(13,I g.vens.length),(14,I i)] [(0,.row 1 (NA.LR ((g.vens.take i).map fun v=>lallF v.bk)))] 1)
   (fun i=>i≤g.vens.length) (fun i=>g.vens.length - i) 0 (Nat.zero_le _) (by refine Le.of (τ:=[]) (ν:=[0]) (by kernel_rfl) ?_ ?_<;>((first|exact Lw qGQ1.1 trivial|refine Lw qGQ1.1 ?_);try (first|omega|rfl))) fun i hi=>?_
  refine Wk qGQ1.1 @hright ?_
  refine Cc ?_ ?_<;>intro hc<;>(try simp only[Za,ne_eq]at hc)
  ·have hil:i<g.vens.length:=by omega
   have hz:=takeN (fun v=>lallF v.bk) hil
   have hb:=(h.vens _ (Ya hil)).bk
   have hall:=lall_c (g.vens.getD i default).bk hb _ rfl
   generalize hof:g.vens.getD i default=v at hz hb hall
   refine Wk (An @hof qGQ1.1) (An @hright @hall) ?_
   refine Zb (i+1) (show i+1≤g.vens.length by omega) (by omega) (by refine Le.of (τ:=[(0,641)]) (ν:=[]) (by kernel_rfl) ?_ ?_<;>((refine Lv (An @hof qGQ1.1) fun eE=>?_;first|exact Lw (@Box.out _ eE) trivial|refine Lw (@Box.out _ eE) ?_);try (first|omega|rfl|(rw[hz];exact LR_app _ _ i (by simp;omega)))))
  ·have e:i=g.vens.length:=by omega
   subst e
   have htk:(g.vens.take g.vens.length).map (fun v=>lallF v.bk)=listsG g:=by rw[List.take_length];rfl
   rw[htk]
   have hll:(listsG g).length=g.vens.length:=List.length_map ..
   unfold posG at hr
   have hmer:ACall Tryz.prog 10 [] [.e (.c (.v (.s 1 (List.take g.vens.length (NA.LR (listsG g))))))] (NA.resA (NA.allS (listsG g))) []:=by
    rw[List.take_of_length_le (by rw[List.length_map];omega)]
    exact NA.all13_c (listsG g) (by omega) hl _ rfl
   generalize NA.allS (listsG g)=q at hr hmer
   obtain ⟨q1,q2⟩:=q
   dsimp only at hr hmer
   refine Wk qGQ1.1 (An @hright @hmer) ?_
   refine Cc ?_ ?_<;>intro hc<;>(try simp only[Za,ne_eq]at hc)
   ·rw[if_pos hc]at hr
    subst hr
    refine Wk qGQ1.1 (An @hright @hmer) ?_
    first|exact Fn @Tryz.results11 qGQ1.1 trivial|refine Fn @Tryz.results11 qGQ1.1 ?_
   ·rw[if_neg (by simpa using hc)]at hr
    subst hr
    refine Wk qGQ1.1 (An @hright @hmer) ?_
    first|exact Fn @Tryz.results11 qGQ1.1 trivial|refine Fn @Tryz.results11 qGQ1.1 ?_
section
open NU
def colS:ByteArray:=⟨#[58]⟩
theorem sz1:ByteArray.size ⟨#[58]⟩=1:=rfl
def qDQ1:=PLift.up (An @NA.getD_pR (An @Zg (An @sz1 (An @ByteArray.size_append @List.getD_cons_zero.{0}))))
theorem dpos_c (k:Kee) (g:Gat) (hg:gatP g) (hl:(listsG g).flatten.length≤1000) (p:NA.Pos) (hp:posG g=[p]) (ho:p.over=false) (ha:p.acc.size≤100) (hs:p.sym.size≤100) (h1:(str (showL p.qty)).size≤1000) (h2:(str (showL p.value)).size≤1000) (x:ByteArray)
 (T:ByteArray) (hT:p.acc++colS++p.sym++colS++(strN p.qty++colS++strN p.value)=T) :
 ACall Tryz.prog 190 [.loc (keC k g)] [.p 0 0,ssD [x]] (StD T) [.loc (keC k g)]:=by
 have hgp:=gpos_c g hg hl [p] hp
 obtain ⟨a,s,q,v,o⟩:=p
 dsimp only at ho ha hs h1 h2 hT
 subst ho
 have hsz1:True:=trivial
 have hsz2:True:=trivial
 refine Ac Tryz.func190 ?_
 refine Wk qDQ1.1 (An @hgp @NU.Zz) ?_
 refine Cc ?_ ?_<;>intro hc<;>(try simp only[Za,ne_eq]at hc)
 ·contradiction
 ·refine Wk qDQ1.1 (An @hgp @NU.Zz) ?_
  refine AWp.loop (fun i:Nat=>mkSt [(0,.p 0 0),(5,.e (.c (.o 1 i))),(20,NA.psD [⟨a,s,q,v,false⟩]),(21,I 1),(22,I i)] [(0,.loc (keC k g)),(1,.row 1 (sR (List.replicate i T)))] 2)
   (fun i=>i≤1) (fun i=>1 - i) 0 (Nat.zero_le _) (by refine Le.of (τ:=[]) (ν:=[1]) (by kernel_rfl) ?_ ?_<;>((first|exact Lw qDQ1.1 trivial|refine Lw qDQ1.1 ?_);try (first|omega|rfl))) fun i hi=>?_
  refine Wk qDQ1.1 (An @hgp @NU.Zz) ?_
  refine Cc ?_ ?_<;>intro hc<;>(try simp only[Za,ne_eq]at hc)
  ·obtain rfl:i=0:=by omega
   refine Wk qDQ1.1 (An @hgp @NU.Zz) ?_
   refine Cc ?_ ?_<;>intro hc<;>(try simp only[Za,ne_eq]at hc)
   ·refine Wk qDQ1.1 (An @hgp @NU.Zz) ?_
    refine Zb 1 (Nat.le_refl _) (by omega) (by refine Le.of (τ:=[(1,1858)]) (ν:=[]) (by kernel_rfl) ?_ ?_<;>((first|exact Lw qDQ1.1 trivial|refine Lw qDQ1.1 ?_);try (first|omega|(refine ⟨?_,rfl⟩;omega)|rfl|(rw[←hT];rfl))))
   ·contradiction
  ·obtain rfl:i=1:=by omega
   have hjs:joinS [T] spS=T:=by unfold joinS;rw[List.map_cons,List.map_nil,Lib.join_one]
   have hjoin:=join_c [T] spS (by simp) (by rw[hjs,←hT];simp only[ByteArray.size_append];show a.size+1+s.size+1+((str (showL q)).size+1+(str (showL v)).size)≤1000000;omega)
   rw[hjs]at hjoin
   refine Wk qDQ1.1 (An @hgp (An @hjoin @NU.Zz)) ?_
   refine Cc ?_ ?_<;>intro hc<;>(try simp only[Za,ne_eq]at hc)
   ·contradiction
   ·refine Wk qDQ1.1 (An @hgp (An @hjoin @NU.Zz)) ?_
    refine Fs @Tryz.results190 ?_
    refine ⟨[0],[],[],by kernel_rfl,?_,?_⟩<;>((first|exact Lw qDQ1.1 trivial|refine Lw qDQ1.1 ?_);try (first|omega|rfl))
end
section
open NU
theorem mul150:NA.mulS 3 50=(150,true):=by
 unfold NA.mulS;rw[if_pos];· rfl
 ·unfold NA.okN;omega
theorem posE:posN bkE2 ⟨str [97],str [115]⟩=⟨str [97],str [115],3,150,false⟩:=by
 have hf:bkE2.fills.filter (selF (str [97]) (str [115]))=[filX exE2]:=rfl
 have hm:mulF (filX exE2)=(150,true):=mul150
 show posL (str [97]) (str [115]) (bkE2.fills.filter (selF (str [97]) (str [115])))=_
 rw[hf]
 unfold posL
 rw[show [filX exE2].map sgnF=[3] from rfl,show [filX exE2].map (fun f=>(mulF f).1)=[(mulF (filX exE2)).1] from rfl,hm,NA.sumS_one (by unfold NA.okN;omega),NA.sumS_one (by unfold NA.okN;omega),if_pos]
 exact ⟨fun f hf=>by rw[List.mem_singleton.1 hf,hm],rfl,rfl⟩
theorem lall4:lallF bkE2=[⟨str [97],str [115],3,150,false⟩]:=by
 have h1:sortN (namesF bkE2)=[⟨str [97],str [115]⟩]:=List.mergeSort_singleton _
 unfold lallF
 rw[h1,show dedN [(⟨str [97],str [115]⟩:Nam)]=[⟨str [97],str [115]⟩] from rfl,List.map_cons,List.map_nil,posE]
theorem lists4:listsG gE4=[[⟨str [97],str [115],3,150,false⟩]]:=by
 show [lallF bkE2]=_
 rw[lall4]
theorem pos4:posG gE4=[⟨str [97],str [115],3,150,false⟩]:=by
 have h:NA.rgtP [⟨str [97],str [115],3,150,false⟩]:=fun i hi=>by
  obtain rfl:i=0:=by simp at hi;omega
  exact ⟨fun h=>absurd h (Nat.lt_irrefl _),by unfold NA.okN;exact ⟨by decide,by decide⟩,by unfold NA.okN;exact ⟨by decide,by decide⟩,fun h=>by cases h⟩
 unfold posG
 rw[lists4,NA.allS_one h,if_neg (fun h=>h rfl)]
theorem wj0:joinS (words8 aE0) spS=str (lnS.getD 0 []):=by
 have:words8 aE0=[str (asksL.getD 8 []),str [97],str [115],str [49,48],str [49,48],str [49,48],str [49,48,48,48]]:=by
  show [_,_,_,str (showL 10),str (showL 10),str (showL 10),str (showL 1000)]=_
  rw[shw_10,shw_1000]
  rfl
 exact (congrArg (fun l=>joinS l spS) this).trans (by kernel_rfl)
theorem wj1:joinS (words1 aE1) spS=str (lnS.getD 1 []):=by
 have:words1 aE1=[str (asksL.getD 1 []),str [48],str [111],str [97],str [115],str [98,117,121],str [55],str [53,48]]:=by
  show [_,str (showL 0),_,_,_,_,str (showL 7),str (showL 50)]=_
  rw[shw_0,shw_7,shw_50]
  rfl
 exact (congrArg (fun l=>joinS l spS) this).trans (by kernel_rfl)
theorem wj2:joinS (words31 aE2) spS=str (lnS.getD 2 []):=by
 have:words31 aE2=[str (asksL.getD 3 []),str [48],str (execsL.getD 1 []),str [101,49],str [45],str [111],str [97],str [115],str [98,117,121],str [55],str [53,48],str [49]]:=by
  show [_,str (showL 0),_,_,_,_,_,_,_,str (showL 7),str (showL 50),str (showL 1)]=_
  rw[shw_0,shw_7,shw_50,shw_1]
  rfl
 exact (congrArg (fun l=>joinS l spS) this).trans (by kernel_rfl)
theorem wj3:joinS (words32 aE3) spS=str (lnS.getD 3 []):=by
 have:words32 aE3=[str (asksL.getD 3 []),str [48],str (execsL.getD 2 []),str [101,50],str [45],str [111],str [97],str [115],str [98,117,121],str [51],str [53,48],str [50]]:=by
  show [_,str (showL 0),_,_,_,_,_,_,_,str (showL 3),str (showL 50),str (showL 2)]=_
  rw[shw_0,shw_3,shw_50,shw_2]
  rfl
 exact (congrArg (fun l=>joinS l spS) this).trans (by kernel_rfl)
theorem works_c:ACall Tryz.prog 6 [] [] (B true) []:=by
 have hg0:gatP (newG 1 100):=newG_right (by omega) (by omega) (by unfold timeP;omega)
 have hk0:=newE_right 1 100
 have hs0:(newE 1 100).s0.length+(newE 1 100).t0.length≤1000:=by
  show (ND.put (ND.first 1 [])).length+0≤1000
  rw[ND.put_len,ND.first_len]
  decide
 obtain ⟨k1,e1,l1⟩:=do_ok (k:=newE 1 100) pt0 (by omega) ask0
 have r1:=doK_right (a:=aE0) hk0 hg0
 rw[e1]at r1
 obtain ⟨k2,e2,l2⟩:=do_ok (k:=k1) pt1 (by omega) ask1
 have r2:=doK_right (a:=aE1) r1.1 r1.2
 rw[e2]at r2
 obtain ⟨k3,e3,l3⟩:=do_ok (k:=k2) pt2 (by omega) ask2
 have r3:=doK_right (a:=aE2) r2.1 r2.2
 rw[e3]at r3
 obtain ⟨k4,e4,l4⟩:=do_ok (k:=k3) pt3 (by omega) ask3
 have r4:=doK_right (a:=aE3) r3.1 r3.2
 rw[e4]at r4
 dsimp only at r1 r2 r3 r4
 let ke:Nat→Kee:=fun i=>[newE 1 100,k1,k2,k3,k4,k4,k4].getD i k4
 let ga:Nat→Gat:=fun i=>[newG 1 100,gE1,gE2,gE3,gE4,gE4,gE4].getD i gE4
 let T:Nat→ByteArray:=fun i=>[⟨#[111,107]⟩,⟨#[108,101,116]⟩,⟨(Lib.decDigits 1).toArray⟩,⟨(Lib.decDigits 1).toArray⟩,str [97,58,115,58,51,58,49,53,48],str [55,32,48]].getD i default
 have hrun:=play_run script (by decide) (by decide) lnS ln_script ke ga T rfl rfl (fun i hi=>by
  have:i<6:=hi
  match i,this with
  | 0,_=>exact ⟨_,_,rfl,by decide⟩
  | 1,_=>exact ⟨_,_,rfl,by decide⟩
  | 2,_=>exact ⟨_,_,rfl,by decide⟩
  | 3,_=>exact ⟨_,_,rfl,by decide⟩
  | 4,_=>exact ⟨_,_,rfl,by decide⟩
  | 5,_=>exact ⟨_,_,rfl,by decide⟩) (fun i hi=>by
  have:i<6:=hi
  match i,this with
  | 0,_ =>
   rw[wd0_eq]
   have hsh:=tshow_c aE0 (words8 aE0) (words8_c aE0) (Nat.le_of_ble_eq_true rfl) (by rw[wj0];decide) pt0.1
   rw[wj0]at hsh
   have hpa:=tparse_c (lnS.getD 0 []) (by decide) wd0 wd0_eq 8 pl8 (by decide) aE0 (as0 ▸ asked8_c wd0 (by decide) (by decide)) hsh
   exact dask8_c (newE 1 100) (newG 1 100) hk0 hg0 (wd0.map str) (by decide) (lnS.getD 0 []) (by decide) (by kernel_rfl) aE0 (by decide) hpa _ e1 rfl
  | 1,_ =>
   rw[wd1_eq]
   have hsh:=tshow_c aE1 (words1 aE1) (words1_c aE1) (Nat.le_of_ble_eq_true rfl) (by rw[wj1];decide) pt1.1
   rw[wj1]at hsh
   have hpa:=tparse_c (lnS.getD 1 []) (by decide) wd1 wd1_eq 1 pl1 (by decide) aE1 (as1 ▸ asked1_c wd1 (by decide) (by decide)) hsh
   exact dask1_c k1 gE1 r1.1 r1.2 (wd1.map str) (by decide) (lnS.getD 1 []) (by decide) (by kernel_rfl) aE1 (by decide) hpa _ e2 rfl rfl
  | 2,_ =>
   rw[wd2_eq]
   have hsh:=tshow_c aE2 (words31 aE2) (words31_c aE2) (Nat.le_of_ble_eq_true rfl) (by rw[wj2];decide) pt2.1
   rw[wj2]at hsh
   have hpa:=tparse_c (lnS.getD 2 []) (by decide) wd2 wd2_eq 3 pl3 (by decide) aE2 (as2 ▸ asked3_c wd2 (by decide) (by decide) ⟨#[]⟩ (by decide)) hsh
   exact dask3_c k2 gE2 r2.1 r2.2 (wd2.map str) (by decide) (lnS.getD 2 []) (by decide) (by kernel_rfl) aE2 (by decide) hpa _ e3 rfl 1 (by decide) rfl
  | 3,_ =>
   rw[wd3_eq]
   have hsh:=tshow_c aE3 (words32 aE3) (words32_c aE3) (Nat.le_of_ble_eq_true rfl) (by rw[wj3];decide) pt3.1
   rw[wj3]at hsh
   have hpa:=tparse_c (lnS.getD 3 []) (by decide) wd3 wd3_eq 3 (by decide) (by decide) aE3 (as3 ▸ asked3_c wd3 (by decide) (by decide) ⟨#[]⟩ (by decide)) hsh
   exact dask3_c k3 gE3 r3.1 r3.2 (wd3.map str) (by decide) (lnS.getD 3 []) (by decide) (by kernel_rfl) aE3 (by decide) hpa _ e4 rfl 1 (by decide) rfl
  | 4,_ =>
   rw[wd4_eq]
   exact dpos_c k4 gE4 r4.2 (by rw[lists4];decide) _ pos4 rfl (by decide) (by decide) (by rw[shw_3];decide) (by rw[shw_150];decide) _ _ (by show (str [97]++colS++str [115]++colS++(str (showL 3)++colS++str (showL 150)):ByteArray)=str [97,58,115,58,51,58,49,53,48];rw[shw_3,shw_150];rfl)
  | 5,_ =>
   rw[wd5_eq]
   have h:=dworst_c k4 gE4 r4.2 (str [119,111,114,115,116]) (str [97]) (str [115]) (by decide) (by decide) (by rw[ev5,shw_7];decide) (by rw[ev5,shw_0];decide)
   rw[ev5]at h
   replace h:ACall Tryz.prog 189 [.loc (keC k4 gE4)] [.p 0 0,ssD [str [119,111,114,115,116],str [97],str [115]]] (StD (str (showL 7)++(⟨#[32]⟩:ByteArray)++str (showL 0))) [.loc (keC k4 gE4)]:=h
   rw[shw_7,shw_0]at h
   exact h)
 refine works_of ((List.range 6).map T) (Play_run _ _ _ hrun) rfl rfl rfl
end
theorem topShut_c (l:List Ask) (o:Ord) (ls:List NA.Lim):ACall Tryz.prog 4 [] [asksD l,NO.oD o,NA.lsD ls] (B true) []:=shut_run works_c l o ls
end Eng
end Go.Proofs.YtgenjpingdkmgaaGreatDoor
