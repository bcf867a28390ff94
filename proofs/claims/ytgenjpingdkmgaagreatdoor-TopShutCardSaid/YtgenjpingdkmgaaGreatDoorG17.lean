/- Contracts of functions that this seat's law calls. No condition. -/
import Derived.Test.YtgenjpingdkmgaaGreatDoorG16
set_option maxRecDepth 100000
set_option linter.unusedSimpArgs false
set_option linter.unusedVariables false
open Go.Proofs.Tryz
namespace Go.Proofs.YtgenjpingdkmgaaGreatDoor
namespace Eng
namespace NA
theorem zAI23 {R G:Prop} (k:R) (h:Box R->G:=by
 intro k;simp (disch:=omega) only[↓reduceIte,Zx,Nat.reduceEqDiff,Nat.reduceAdd,if_true,if_false,reduceCtorEq,eq_self,Nat.reduceBEq,Zp,forall_const,Nat.reduceBEq,Int.reduceEq,Int.reduceToNat,evO_f,getD_map,hmid,List.drop_succ_cons,List.drop_zero,List.length_map,List.getElem?_cons_succ,List.getElem?_nil,hset,htake,hgd,List.take_nil,List.map_nil,tl2,tl3,tl4,tl9,tl38,tl33,tl48,tl200,tl192]
 all_goals exact k.out):G:=h ⟨k⟩
theorem zAI22 {R G:Prop} (k:R) (h:Box R->G:=by
 intro k;change Fin _ _ _ _ _ _;simp only[fe_all,id_eq,Nat.reduceLeDiff,↓reduceIte,Zx,Nat.reduceEqDiff,Nat.reduceAdd,if_true,if_false,reduceCtorEq,eq_self,Nat.reduceBEq,results48,results88,results116,results118,tl2,tl3,tl4,tl9,tl38,tl33,tl48,tl200,tl192]
 all_goals exact k.out):G:=h ⟨k⟩
theorem zAI21 {R G:Prop} (k:R) (h:Box R->G:=by
 intro k
 repeat' (first|((fail_if_success clear hK);change AWp _ _ _ _ _ _;first|refine AWp.seq ?_|refine AWp.text (own:=(oF [116,118])) tG_ok (by kernel_rfl) (fun K hK=>?_)|refine AWp.draw (own:=(oF [116,118])) tG_ok mixed (by kernel_rfl) (by kernel_rfl) (fun K hK=>?_)|refine AWp.skip ?_|refine AWp.ret ?_|refine AWp.exit ?_|refine AWp.label ?_|refine AWp.block ?_)|(revert hK;intro hK;first|(with_reducible refine hK _ _ _ ?_;clear hK K)|(with_reducible refine hK _ _ _ ?_ ?_;(focus kernel_rfl);clear hK K)|((with_reducible change CallS _ _ _ _ _ _);(first|refine CallS.of (clone_c l (by omega)) ?_|refine CallS.of hright ?_|refine CallS.of_if (fun _=>hmay) ?_|refine CallS.of hsearch ?_|refine CallS.of hins ?_|refine CallS.of (Zl ⟨_,_,_,_,_,_⟩ ⟨_,_,_,_,_,_⟩) ?_|refine CallS.of_if (fun _=>Zl ⟨_,_,_,_,_,_⟩ ⟨_,_,_,_,_,_⟩) ?_|refine CallS.of_if (val:=I 0) (bo:=[]) (fun h=>by cases h) ?_))|(with_reducible refine And.intro ?_ ?_)|(simp (disch:=omega) only[↓reduceIte,Zo,backT,pos,idsB,idsC,nodup,live,makeSliceE,viewE,viewFE,appendUE,appendFE,capFE,copyE,copySrc,clearE,guardB,isNilOp,nilS,withTy,splice,lenE,appendE,sliceE,boundE,indexAddrE,indexE,buildE,fillE,buildSliceE,partsE,builtinE,minE,minI,convE,convHE,appendNE,capE,D.x,id_eq,eq_self,if_true,if_false,ne_eq,implies_true,Nat.reduceAdd,Nat.reduceMul,Nat.reduceSub,Nat.reduceEqDiff,Nat.reduceLT,Nat.reduceLeDiff,reduceCtorEq,Zp,forall_const,Nat.reduceBEq,Int.reduceEq,Int.reduceToNat,evO_f,getD_map,hmid,List.drop_succ_cons,List.drop_zero,List.length_map,List.getElem?_cons_succ,List.getElem?_nil,hset,htake,hgd,List.take_nil,List.map_nil,true_and,tl2,tl3,tl4,tl9,tl38,tl33,tl48,tl200,tl192])|(first|omega|(intro hq;(try simp only[Zf,ne_eq,Bool.not_not,Bool.and_true]at hq);first|omega|assumption|(simp_all;done))|(simp_all;done))|(intro (bn:Bool) hbn)))
 all_goals exact k.out):G:=h ⟨k⟩
theorem clone_c (l:List Lim) (h:l.length<=1000000):ACall prog 88 [] [lsD l] (.e (.c (.o 0 l.length))) [.row 6 (lR l)]:=by
 have hmid:True:=trivial;have hright:True:=trivial;have hmay:True:=trivial;have hsearch:True:=trivial;have hins:True:=trivial;have hset:True:=trivial;have htake:True:=trivial;have hgd:True:=trivial;refine Ac func88 ?_
 ((repeat' (first|((fail_if_success clear hK);change AWp _ _ _ _ _ _;first|refine AWp.seq ?_|refine AWp.text (own:=(oF [116,118])) tG_ok (by kernel_rfl) (fun K hK=>?_)|refine AWp.draw (own:=(oF [116,118])) tG_ok mixed (by kernel_rfl) (by kernel_rfl) (fun K hK=>?_)|refine AWp.skip ?_|refine AWp.ret ?_|refine AWp.exit ?_|refine AWp.label ?_|refine AWp.block ?_)|(revert hK;intro hK;first|(with_reducible refine hK _ _ _ ?_;clear hK K)|(with_reducible refine hK _ _ _ ?_ ?_;(focus kernel_rfl);clear hK K)|((with_reducible change CallS _ _ _ _ _ _);(first|refine CallS.of (clone_c l (by omega)) ?_|refine CallS.of hright ?_|refine CallS.of_if (fun _=>hmay) ?_|refine CallS.of hsearch ?_|refine CallS.of hins ?_|refine CallS.of (Zl ⟨_,_,_,_,_,_⟩ ⟨_,_,_,_,_,_⟩) ?_|refine CallS.of_if (fun _=>Zl ⟨_,_,_,_,_,_⟩ ⟨_,_,_,_,_,_⟩) ?_|refine CallS.of_if (val:=I 0) (bo:=[]) (fun h=>by cases h) ?_))|(with_reducible refine And.intro ?_ ?_)|(simp (disch:=omega) only[↓reduceIte,Zo,backT,pos,idsB,idsC,nodup,live,makeSliceE,viewE,viewFE,appendUE,appendFE,capFE,copyE,copySrc,clearE,guardB,isNilOp,nilS,withTy,splice,lenE,appendE,sliceE,boundE,indexAddrE,indexE,buildE,fillE,buildSliceE,partsE,builtinE,minE,minI,convE,convHE,appendNE,capE,D.x,id_eq,eq_self,if_true,if_false,ne_eq,implies_true,Nat.reduceAdd,Nat.reduceMul,Nat.reduceSub,Nat.reduceEqDiff,Nat.reduceLT,Nat.reduceLeDiff,reduceCtorEq,Zp,forall_const,Nat.reduceBEq,Int.reduceEq,Int.reduceToNat,evO_f,getD_map,hmid,List.drop_succ_cons,List.drop_zero,List.length_map,List.getElem?_cons_succ,List.getElem?_nil,hset,htake,hgd,List.take_nil,List.map_nil,true_and,tl2,tl3,tl4,tl9,tl38,tl33,tl48,tl200,tl192])|(first|omega|(intro hq;(try simp only[Zf,ne_eq,Bool.not_not,Bool.and_true]at hq);first|omega|assumption|(simp_all;done))|(simp_all;done))|(intro (bn:Bool) hbn)))))
 refine Cb ?_ ?_<;>intro hc<;>(try exact ⟨⟩)
 .refine zAI21 ?_;subst hc;have e:l=[]:=by simpa using hbn rfl
  subst e;refine zAI22 ?_;refine ⟨[],[],[0],by kernel_rfl,?_,?_⟩<;>((first|exact zAI23 trivial|refine zAI23 ?_);try omega)
 .refine zAI21 ?_;refine zAI22 ?_;refine ⟨[320],[(0,320)],[],by kernel_rfl,?_,?_⟩<;>((first|exact zAI23 trivial|refine zAI23 ?_);try omega)
theorem z48:zeroV ty48=lV default:=by kernel_rfl
theorem searchO_c (l:List Lim) (x:Lim) (hl:l.length<=1000000) (n:Nat) (hn:n<=l.length) (h1:∀j,j<n->cmpL (l.getD j default) x<0) (h2:∀j,n<=j->j<l.length->0<=cmpL (l.getD j default) x) :
 ACall prog 116 [.row 6 (lR l)] [.e (.c (.o 0 l.length)),lD x,fD 117] (.t [.c (.v (vI n)),.c (.v (.x (.bool (decide (n<l.length) && decide (cmpL (l.getD n default) x=0)))))]) [.row 6 (lR l)]:=by
 have hmid:True:=trivial;have hright:True:=trivial;have hmay:True:=trivial;have hsearch:True:=trivial;have hins:True:=trivial;have hset:True:=trivial;have htake:True:=trivial;have hgd:True:=trivial;refine Ac func116 ?_;refine zAI21 ?_;refine AWp.loop (τ:=ren [(1,1)]) (fun s:Nat×Nat=>mkSt [(0,.e (.c (.o 0 l.length))),(2,fD 117),(4,.p 1 0),(8,I l.length),(9,I s.1),(10,I s.2)] [(0,.row 6 (lR l)),(1,.loc (lC x))] 2) (fun s=>s.1<=n/\n<=s.2/\s.2<=l.length) (fun s=>s.2 - s.1) (0,l.length) ⟨Nat.zero_le _,hn,Nat.le_refl _⟩ (by refine Le.of (ν:=[]) (by kernel_rfl) ?_ ?_<;>((first|exact zAI23 trivial|refine zAI23 ?_);try rfl)) fun s hi=>?_;obtain ⟨lo,hi'⟩:=s;obtain ⟨ha,hb,hcc⟩:=hi;dsimp only at ha hb hcc ⊢;refine zAI21 ?_;refine Cb ?_ ?_<;>intro hc<;>(try exact ⟨⟩)
 .have hmid:=mid_eq lo hi' (by omega);have hm1:lo<=(lo+hi') / 2:=by omega
  have hm2:(lo+hi') / 2<hi':=by omega
  generalize (lo+hi') / 2=m at hmid hm1 hm2;refine zAI21 ?_;refine Cb ?_ ?_<;>intro hc<;>(try exact ⟨⟩)
  .have hlt:cmpL (l.getD m default) x<0:=hc
   have hmn:m<n:=by
    rcases Nat.lt_or_ge m n with h|h
    .exact h
    .exact absurd (h2 m h (by omega)) (by omega)
   refine zAI21 ?_;refine Za (m+1,hi') ⟨by dsimp only;omega,by dsimp only;omega,by dsimp only;omega⟩ (by dsimp only;omega) (by refine Le.of (τ:=[]) (ν:=[]) (by kernel_rfl) ?_ ?_<;>((first|exact zAI23 trivial|refine zAI23 ?_);try omega))
  .have hge:¬cmpL (l.getD m default) x<0:=hc
   have hmn:n<=m:=by
    rcases Nat.lt_or_ge m n with h|h
    .exact absurd (h1 m h) hge
    .exact h
   refine zAI21 ?_;refine Za (lo,m) ⟨by dsimp only;omega,by dsimp only;omega,by dsimp only;omega⟩ (by dsimp only;omega) (by refine Le.of (τ:=[]) (ν:=[]) (by kernel_rfl) ?_ ?_<;>((first|exact zAI23 trivial|refine zAI23 ?_);try omega))
 .obtain rfl:lo=n:=by omega
  have hmid:True:=trivial;by_cases hlo:lo<l.length
  .have e1:decide ((lo:Int)<(l.length:Int))=true:=decide_eq_true (by omega);have hgd:=e1;refine zAI21 ?_;refine zAI22 ?_;refine ⟨[0],[],[],by kernel_rfl,?_,?_⟩<;>((first|exact zAI23 trivial|refine zAI23 ?_);try omega)
   rw[decide_eq_true hlo,Bool.true_and];show decide (cmpL (l.getD lo default) x=0)=(cmpL (l.getD lo default) x == 0);rfl
  .have e1:decide ((lo:Int)<(l.length:Int))=false:=decide_eq_false (by omega);have hgd:rowAt ty48 (lR l) lo 0=lV default/\decide ((lo:Int)<(l.length:Int))=false:=⟨by unfold rowAt;rw[List.getElem?_eq_none (by simp;omega)];exact z48,e1⟩
   refine zAI21 ?_;refine zAI22 ?_;refine ⟨[0],[],[],by kernel_rfl,?_,?_⟩<;>((first|exact zAI23 trivial|refine zAI23 ?_);try omega)
   rw[decide_eq_false hlo];rfl
abbrev resS (xs:List Lim) (e:Int):D:=.t [.c (.v (.s 6 (lR xs))),.c (.v (vI e))]
theorem lR_set (l:List Lim) (n:Nat) (x:Lim):(lR l).set n (lV x)=lR (l.set n x):=by
 unfold lR;rw[List.map_set]
theorem lR_ins (l:List Lim) (n:Nat) (x:Lim):(lR l).take n++lV x::(lR l).drop n=lR (l.take n++x::l.drop n):=by
 unfold lR;rw[List.map_append,List.map_cons,List.map_take,List.map_drop]
theorem set_c (l:List Lim) (x:Lim) (hl:l.length<=40) (r:List Lim×Int) (hr:setL l x=r):ACall prog 48 [] [lsD l,lD x] (resS r.1 r.2) []:=by
 have hmid:True:=trivial;have hgd:True:=trivial;by_cases hrt:rightP l
 .have hright:=rightYes_c l hrt;by_cases hm:mayL x=true
  .have hmay:=Zk x;rw[hm]at hmay;have hsearch:=searchO_c l x (by omega) (posL l x) (posL_le l x) (posL_lt l x) (posL_ge hrt x);rw[show (decide (posL l x<l.length) && decide (cmpL (l.getD (posL l x) default) x=0))=foundL l x from rfl]at hsearch;by_cases hf:foundL l x=true
   .rw[setL_found hrt hm hf]at hr;subst hr;rw[hf]at hsearch;have hins:True:=trivial;have hset:=lR_set l (posL l x) x;have hlt:=(foundL_spec.1 hf).1;have htake:(lR (l.set (posL l x) x)).take l.length=lR (l.set (posL l x) x):=List.take_of_length_le (by simp);refine Ac func48 ?_;refine zAI21 ?_;refine Cb ?_ ?_<;>intro hc<;>(try exact ⟨⟩)
    .contradiction
    .refine zAI21 ?_;refine Cb ?_ ?_<;>intro hc<;>(try exact ⟨⟩)
     .refine zAI21 ?_;refine zAI22 ?_;refine ⟨[],[],[],by kernel_rfl,?_,?_⟩<;>((first|exact zAI23 trivial|refine zAI23 ?_);try omega)
      try (rw[List.length_set];exact Nat.le_refl _)
     .contradiction
   .have hf2:foundL l x=false:=by simpa using hf
    rw[hf2]at hsearch;have hset:True:=trivial;have hins:=insert_c (lR l) (lV x) (posL l x) (fun r hr=>by obtain ⟨y,_,rfl⟩:=List.mem_map.1 hr;rfl) rfl (by simpa using posL_le l x) (by simp;omega);rw[lR_ins,List.length_map]at hins;have hlen2:(l.take (posL l x)++x::l.drop (posL l x)).length=l.length+1:=by have:=posL_le l x;simp;omega
    have htake:(lR (l.take (posL l x)++x::l.drop (posL l x))).take (l.length+1)=lR (l.take (posL l x)++x::l.drop (posL l x)):=List.take_of_length_le (by simp only[List.length_map,hlen2];exact Nat.le_refl _);by_cases h32:l.length=32
    .rw[setL_full hrt hm hf h32]at hr;subst hr;refine Ac func48 ?_;refine zAI21 ?_;refine Cb ?_ ?_<;>intro hc<;>(try exact ⟨⟩)
     .contradiction
     .refine zAI21 ?_;refine Cb ?_ ?_<;>intro hc<;>(try exact ⟨⟩)
      .contradiction
      .refine zAI21 ?_;refine Cb ?_ ?_<;>intro hc<;>(try exact ⟨⟩)
       .refine zAI21 ?_;refine zAI22 ?_;refine ⟨[],[],[],by kernel_rfl,?_,?_⟩<;>((first|exact zAI23 trivial|refine zAI23 ?_);try omega)
       .omega
    .rw[setL_ins hrt hm hf h32]at hr;subst hr;refine Ac func48 ?_;refine zAI21 ?_;refine Cb ?_ ?_<;>intro hc<;>(try exact ⟨⟩)
     .contradiction
     .refine zAI21 ?_;refine Cb ?_ ?_<;>intro hc<;>(try exact ⟨⟩)
      .contradiction
      .refine zAI21 ?_;refine Cb ?_ ?_<;>intro hc<;>(try exact ⟨⟩)
       .omega
       .refine zAI21 ?_;refine zAI22 ?_;refine ⟨[],[],[],by kernel_rfl,?_,?_⟩<;>((first|exact zAI23 trivial|refine zAI23 ?_);try omega)
  .have hmay:=Zk x;rw[Bool.eq_false_iff.2 hm]at hmay;have hsearch:True:=trivial;have hins:True:=trivial;have hset:True:=trivial;have htake:True:=trivial;rw[setL_bad (fun h=>hm h.2)]at hr;subst hr;refine Ac func48 ?_;refine zAI21 ?_;refine Cb ?_ ?_<;>intro hc<;>(try exact ⟨⟩)
   .refine zAI21 ?_;refine zAI22 ?_;refine ⟨[],[],[],by kernel_rfl,?_,?_⟩<;>((first|exact zAI23 trivial|refine zAI23 ?_);try omega)
   .contradiction
 .have hright:=rightNo_c l (by omega) hrt;have hmay:=Zk x;have hsearch:True:=trivial;have hins:True:=trivial;have hset:True:=trivial;have htake:True:=trivial;rw[setL_bad (fun h=>hrt h.1)]at hr;subst hr;refine Ac func48 ?_;refine zAI21 ?_;refine Cb ?_ ?_<;>intro hc<;>(try exact ⟨⟩)
  .refine zAI21 ?_;refine zAI22 ?_;refine ⟨[],[],[],by kernel_rfl,?_,?_⟩<;>((first|exact zAI23 trivial|refine zAI23 ?_);try omega)
  .contradiction
end NA
theorem Yl (l:List Ven) (ty:Ty) (i off:Nat) (h:i<l.length):rowAt ty (l.map fun v=>[NO.osV v.bk.ords,fsV v.bk.fills,ssV v.bk.ids,vI v.bk.clock,vI v.bk.bad,NO.osV v.sent,vI v.last,vB v.gap]) i off=(vnV (l.getD i default)).drop off:=by
 unfold rowAt;simp[List.getD_eq_getElem?_getD,h]
theorem Z4 (l:List Ven) (i:Nat) (h:i<l.length) (r:List V) (hr:r=vnV (l.getD i default)):(vR l).set i r=vR l:=by
 subst hr;have e:(vR l)[i]'(by simpa using h)=vnV (l.getD i default):=by simp[List.getD_eq_getElem?_getD,h]
 rw[<-e];exact List.set_getElem_self _
theorem Zt (l:List Ven) (i:Nat) (h:i<l.length):(vR l).getD i []=vnV (l.getD i default):=getD_vR l i [] h
def qGE1:=PLift.up (An @Yl @Zi)
theorem zGE1 {R G:Prop} (k:R) (h:Box R->G:=by
 intro k;simp (disch:=omega) only[↓reduceIte,Zo,backT,pos,idsB,idsC,nodup,live,makeSliceE,viewE,viewFE,appendUE,appendFE,capFE,copyE,copySrc,clearE,guardB,isNilOp,nilS,withTy,splice,lenE,appendE,sliceE,boundE,indexAddrE,indexE,buildE,fillE,buildSliceE,partsE,builtinE,minE,minI,convE,convHE,appendNE,capE,D.x,id_eq,eq_self,if_true,if_false,ne_eq,implies_true,Nat.reduceAdd,Nat.reduceMul,Nat.reduceSub,Nat.reduceEqDiff,Nat.reduceLT,Nat.reduceLeDiff,reduceCtorEq,Yl,Zi,Zp,forall_const,Nat.reduceBEq,Int.reduceEq,Int.reduceToNat,bne_self_eq_false,true_and,tyAll]
 all_goals exact k.out):G:=h ⟨k⟩
theorem cloneV_c (l:List Ven) (h:l.length<=1000000):ACall prog 84 [] [.e (.c (.v (.s 8 (vR l))))] (.e (.c (.o 0 l.length))) [.row 8 (vR l)]:=by
 refine Ac func84 ?_
 repeat' (first|((fail_if_success clear hK);change AWp _ _ _ _ _ _;first|refine AWp.seq ?_|refine AWp.text (own:=nO) tG_ok (by kernel_rfl) (fun K hK=>?_)|refine AWp.draw (own:=nO) tG_ok mixed (by kernel_rfl) (by kernel_rfl) (fun K hK=>?_)|refine AWp.skip ?_|refine AWp.ret ?_|refine AWp.exit ?_|refine AWp.label ?_|refine AWp.block ?_)|(revert hK;intro hK;first|(with_reducible refine hK _ _ _ ?_;clear hK K)|(with_reducible refine hK _ _ _ ?_ ?_;(focus kernel_rfl);clear hK K)|((with_reducible change CallS _ _ _ _ _ _);(first|refine CallS.of hclv ?_|refine CallS.of hcl1 ?_|refine CallS.of hcl2 ?_|refine CallS.of hcl3 ?_|refine CallS.of hcl4 ?_|refine CallS.of hcl5 ?_))|(with_reducible refine And.intro ?_ ?_)|((first|exact zGE1 trivial|refine zGE1 ?_))|(first|omega|(intro hq;(try simp only[Zf,ne_eq,Bool.not_not,Bool.and_true]at hq);first|omega|assumption|(simp_all;done))|(simp_all;done))|(intro (bn:Bool) hbn)))
 refine Cb ?_ ?_<;>intro hc<;>(try exact ⟨⟩)
 .repeat' (first|((fail_if_success clear hK);change AWp _ _ _ _ _ _;first|refine AWp.seq ?_|refine AWp.text (own:=nO) tG_ok (by kernel_rfl) (fun K hK=>?_)|refine AWp.draw (own:=nO) tG_ok mixed (by kernel_rfl) (by kernel_rfl) (fun K hK=>?_)|refine AWp.skip ?_|refine AWp.ret ?_|refine AWp.exit ?_|refine AWp.label ?_|refine AWp.block ?_)|(revert hK;intro hK;first|(with_reducible refine hK _ _ _ ?_;clear hK K)|(with_reducible refine hK _ _ _ ?_ ?_;(focus kernel_rfl);clear hK K)|((with_reducible change CallS _ _ _ _ _ _);(first|refine CallS.of hclv ?_|refine CallS.of hcl1 ?_|refine CallS.of hcl2 ?_|refine CallS.of hcl3 ?_|refine CallS.of hcl4 ?_|refine CallS.of hcl5 ?_))|(with_reducible refine And.intro ?_ ?_)|((first|exact zGE1 trivial|refine zGE1 ?_))|(first|omega|(intro hq;(try simp only[Zf,ne_eq,Bool.not_not,Bool.and_true]at hq);first|omega|assumption|(simp_all;done))|(simp_all;done))|(intro (bn:Bool) hbn)))
  subst hc;have e:l=[]:=by simpa using hbn rfl
  subst e;refine Fs @results84 ?_;refine ⟨[],[],[0],by kernel_rfl,?_,?_⟩<;>((refine Lw qGE1.1 ?_;try exact ⟨⟩);try rfl)
 .repeat' (first|((fail_if_success clear hK);change AWp _ _ _ _ _ _;first|refine AWp.seq ?_|refine AWp.text (own:=nO) tG_ok (by kernel_rfl) (fun K hK=>?_)|refine AWp.draw (own:=nO) tG_ok mixed (by kernel_rfl) (by kernel_rfl) (fun K hK=>?_)|refine AWp.skip ?_|refine AWp.ret ?_|refine AWp.exit ?_|refine AWp.label ?_|refine AWp.block ?_)|(revert hK;intro hK;first|(with_reducible refine hK _ _ _ ?_;clear hK K)|(with_reducible refine hK _ _ _ ?_ ?_;(focus kernel_rfl);clear hK K)|((with_reducible change CallS _ _ _ _ _ _);(first|refine CallS.of hclv ?_|refine CallS.of hcl1 ?_|refine CallS.of hcl2 ?_|refine CallS.of hcl3 ?_|refine CallS.of hcl4 ?_|refine CallS.of hcl5 ?_))|(with_reducible refine And.intro ?_ ?_)|((first|exact zGE1 trivial|refine zGE1 ?_))|(first|omega|(intro hq;(try simp only[Zf,ne_eq,Bool.not_not,Bool.and_true]at hq);first|omega|assumption|(simp_all;done))|(simp_all;done))|(intro (bn:Bool) hbn)))
  refine Fs @results84 ?_;refine ⟨[320],[(0,320)],[],by kernel_rfl,?_,?_⟩<;>((refine Lw qGE1.1 ?_;try exact ⟨⟩);try omega)
theorem clone_c (g:Gat) (h:gatP g):ACall prog 47 [] [gtD g] (.e (.a [.o 0 g.vens.length,.v (.s 6 (NA.lR g.lims)),.v (vB g.kill),.v (vI g.now),.v (vI g.pat)])) [.row 8 (vR g.vens)]:=by
 have hn:=h.n;have hll:=h.lims.1;have hclv:=cloneV_c g.vens (by omega);have hcl5:=NA.clone_c g.lims (by omega);refine Ac func47 ?_;refine Wk qGE1.1 (An @hclv @hcl5) ?_
 refine AWp.loop (fun i:Nat=>mkSt [(1,.p 0 0),(2,.p 1 0),(11,I g.vens.length),(12,I i)] [(0,.loc [.o 2 g.vens.length,.v (.s 6 (NA.lR g.lims)),.v (vB g.kill),.v (vI g.now),.v (vI g.pat)]),(1,.loc [.v (.x (.slice none 0 0)),.v (.x (.slice none 0 0)),.v (vB false),.v (vI 0),.v (vI 0)]),(2,.row 8 (vR g.vens))] 3)
  (fun i=>i<=g.vens.length) (fun i=>g.vens.length - i) 0 (Nat.zero_le _) (by refine Le.of (τ:=[(1,64),(2,256)]) (ν:=[]) (by kernel_rfl) ?_ ?_<;>((refine Lw qGE1.1 ?_;try exact ⟨⟩);try (first|omega|rfl|exact ⟨rfl,rfl⟩))) fun i hi=>?_
 refine Wk qGE1.1 (An @hclv @hcl5) ?_;refine Cb ?_ ?_<;>intro hc<;>(try exact ⟨⟩)
 .have hil:i<g.vens.length:=by omega
  have hp:=h.vens _ (Ya hil);have hroom:=hp.room;have hfl:=hp.bk.fl;have hidl:=hp.bk.il;have hcl1:=NO.clone_c (g.vens.getD i default).bk.ords (by omega);have hcl2:=cloneF_c (g.vens.getD i default).bk.fills (by omega);have hcl3:=cloneS_c (g.vens.getD i default).bk.ids (by omega);have hcl4:=NO.clone_c (g.vens.getD i default).sent (by omega);have hb1:(vR g.vens).set i (NO.osV (g.vens.getD i default).bk.ords::List.drop 1 ((vR g.vens).getD i []))=vR g.vens:=Z4 _ _ hil _ (by rw[Zt _ _ hil];rfl);have hb2:(vR g.vens).set i (List.take 1 ((vR g.vens).getD i [])++[fsV (g.vens.getD i default).bk.fills]++List.drop 2 ((vR g.vens).getD i []))=vR g.vens:=Z4 _ _ hil _ (by rw[Zt _ _ hil];rfl);have hb3:(vR g.vens).set i (List.take 2 ((vR g.vens).getD i [])++[ssV (g.vens.getD i default).bk.ids]++List.drop 3 ((vR g.vens).getD i []))=vR g.vens:=Z4 _ _ hil _ (by rw[Zt _ _ hil];rfl);have hb4:(vR g.vens).set i (List.take 5 ((vR g.vens).getD i [])++[NO.osV (g.vens.getD i default).sent]++List.drop 6 ((vR g.vens).getD i []))=vR g.vens:=Z4 _ _ hil _ (by rw[Zt _ _ hil];rfl);refine Wk (An @hb1 (An @hb2 (An @hb3 (An @hb4 qGE1.1)))) (An @hclv (An @hcl1 (An @hcl2 (An @hcl3 (An @hcl4 @hcl5))))) ?_;refine Za (i+1) (show i+1<=g.vens.length by omega) (by omega) (by refine Le.of (τ:=[]) (ν:=[]) (by kernel_rfl) ?_ ?_<;>((refine Lw (An @hb1 (An @hb2 (An @hb3 (An @hb4 qGE1.1)))) ?_;try exact ⟨⟩);try omega))
 .refine Wk qGE1.1 (An @hclv @hcl5) ?_;refine Fs @results47 ?_;refine ⟨[2],[(0,2)],[],by kernel_rfl,?_,?_⟩<;>((refine Lw qGE1.1 ?_;try exact ⟨⟩);try (first|omega|rfl))
abbrev vnX (v:Ven) (i j:Nat):List C:=[.v (NO.osV v.bk.ords),.v (fsV v.bk.fills),.o i v.bk.ids.length,.v (vI v.bk.clock),.v (vI v.bk.bad),.o j v.sent.length,.v (vI v.last),.v (vB v.gap)]
abbrev gtO (g:Gat) (r:Nat):List C:=[.o r g.vens.length,.v (.s 6 (NA.lR g.lims)),.v (vB g.kill),.v (vI g.now),.v (vI g.pat)]
abbrev gzC:List C:=[.v (.x (.slice none 0 0)),.v (.x (.slice none 0 0)),.v (vB false),.v (vI 0),.v (vI 0)]
def qGX1:=PLift.up (An @Yl @Zi)
theorem cloneX_c (g:Gat) (h:gatP g) (k:Nat) (hk:k<g.vens.length):ACall prog 47 [] [gtD g] (.e (.a (gtO g 0)))
 [.rowx 8 (vR g.vens) k (vnX (g.vens.getD k default) 1 2),.row 1 (sR (g.vens.getD k default).bk.ids),.row 8 (NO.oR (g.vens.getD k default).sent)]:=by
 have hn:=h.n;have hll:=h.lims.1;have hclv:=cloneV_c g.vens (by omega);have hcl5:=NA.clone_c g.lims (by omega);obtain ⟨v,hv⟩:∃v,g.vens.getD k default=v:=⟨_,rfl⟩
 refine Ac func47 ?_;refine Wk qGX1.1 (An @hclv @hcl5) ?_
 refine AWp.loop (fun i:Nat=>if i<=k then mkSt [(1,.p 0 0),(2,.p 1 0),(11,I g.vens.length),(12,I i)] [(0,.loc (gtO g 2)),(1,.loc gzC),(2,.row 8 (vR g.vens))] 3
  else mkSt [(1,.p 0 0),(2,.p 1 0),(11,I g.vens.length),(12,I i)] [(0,.loc (gtO g 2)),(1,.loc gzC),(2,.rowx 8 (vR g.vens) k [.o 5 v.bk.ords.length,.o 6 v.bk.fills.length,.o 3 v.bk.ids.length,.v (vI v.bk.clock),.v (vI v.bk.bad),.o 4 v.sent.length,.v (vI v.last),.v (vB v.gap)]),
   (3,.row 1 (sR v.bk.ids)),(4,.row 8 (NO.oR v.sent)),(5,.row 8 (NO.oR v.bk.ords)),(6,.row 9 (fR v.bk.fills))] 7)
  (fun i=>i<=g.vens.length) (fun i=>g.vens.length - i) 0 (Nat.zero_le _) (by rw[if_pos (Nat.zero_le _)];refine Le.of (τ:=[(1,64),(2,256)]) (ν:=[]) (by kernel_rfl) ?_ ?_<;>((refine Lw qGX1.1 ?_;try exact ⟨⟩);try (first|omega|rfl|exact ⟨rfl,rfl⟩))) fun i hi=>?_
 by_cases hik:i<k
 .rw[if_pos (by omega)];refine Wk qGX1.1 (An @hclv @hcl5) ?_;refine Cb ?_ ?_<;>intro hc<;>(try exact ⟨⟩)
  .have hil:i<g.vens.length:=by omega
   have hp:=h.vens _ (Ya hil);have hroom:=hp.room;have hfl:=hp.bk.fl;have hidl:=hp.bk.il;have hcl1:=NO.clone_c (g.vens.getD i default).bk.ords (by omega);have hcl2:=cloneF_c (g.vens.getD i default).bk.fills (by omega);have hcl3:=cloneS_c (g.vens.getD i default).bk.ids (by omega);have hcl4:=NO.clone_c (g.vens.getD i default).sent (by omega);have hb1:(vR g.vens).set i (NO.osV (g.vens.getD i default).bk.ords::List.drop 1 ((vR g.vens).getD i []))=vR g.vens:=Z4 _ _ hil _ (by rw[Zt _ _ hil];rfl);have hb2:(vR g.vens).set i (List.take 1 ((vR g.vens).getD i [])++[fsV (g.vens.getD i default).bk.fills]++List.drop 2 ((vR g.vens).getD i []))=vR g.vens:=Z4 _ _ hil _ (by rw[Zt _ _ hil];rfl);have hb3:(vR g.vens).set i (List.take 2 ((vR g.vens).getD i [])++[ssV (g.vens.getD i default).bk.ids]++List.drop 3 ((vR g.vens).getD i []))=vR g.vens:=Z4 _ _ hil _ (by rw[Zt _ _ hil];rfl);have hb4:(vR g.vens).set i (List.take 5 ((vR g.vens).getD i [])++[NO.osV (g.vens.getD i default).sent]++List.drop 6 ((vR g.vens).getD i []))=vR g.vens:=Z4 _ _ hil _ (by rw[Zt _ _ hil];rfl);refine Wk (An @hb1 (An @hb2 (An @hb3 (An @hb4 qGX1.1)))) (An @hclv (An @hcl1 (An @hcl2 (An @hcl3 (An @hcl4 @hcl5))))) ?_;refine Za (τ:=ren []) (ν:=[]) (i+1) (show i+1<=g.vens.length by omega) (by omega) ?_;show Le _ _ _ _ (ite _ _ _);rw[if_pos (by omega)];refine Le.of (τ:=[]) (ν:=[]) (by kernel_rfl) ?_ ?_<;>((refine Lw (An @hb1 (An @hb2 (An @hb3 (An @hb4 qGX1.1)))) ?_;try exact ⟨⟩);try (first|omega|rfl))
  .exfalso;omega
 .by_cases hik2:i=k
  .subst hik2;rw[if_pos (by omega)];have hp:=h.vens _ (Ya hk);rw[hv]at hp;have hroom:=hp.room;have hfl:=hp.bk.fl;have hidl:=hp.bk.il;have hcl1:=NO.clone_c v.bk.ords (by omega);have hcl2:=cloneF_c v.bk.fills (by omega);have hcl3:=cloneS_c v.bk.ids (by omega);have hcl4:=NO.clone_c v.sent (by omega);refine AWp.le (st2:=mkSt [(1,.p 0 0),(2,.p 1 0),(11,I g.vens.length),(12,I i)] [(0,.loc (gtO g 2)),(1,.loc gzC),(2,.rowx 8 (vR g.vens) i (vnC v))] 3) (by refine Le.of (τ:=[]) (ν:=[]) (by kernel_rfl) ?_ ?_<;>((refine Lw qGX1.1 ?_;try exact ⟨⟩);try (first|omega|rfl|exact ⟨by simpa using hk,by rw[Zt _ _ hk,hv];rfl⟩))) ?_;refine Wk qGX1.1 (An @hclv (An @hcl1 (An @hcl2 (An @hcl3 (An @hcl4 @hcl5))))) ?_;refine Cb ?_ ?_<;>intro hc<;>(try exact ⟨⟩)
   .refine Wk qGX1.1 (An @hclv (An @hcl1 (An @hcl2 (An @hcl3 (An @hcl4 @hcl5))))) ?_;refine Za (τ:=ren [(3,2307),(4,2947),(5,899),(6,1603)]) (ν:=[]) (i+1) (show i+1<=g.vens.length by omega) (by omega) ?_;show Le _ _ _ _ (ite _ _ _);rw[if_neg (by omega)];refine Le.of (by kernel_rfl) ?_ ?_<;>((refine Lw qGX1.1 ?_;try exact ⟨⟩);try (first|omega|rfl))
   .exfalso;omega
  .rw[if_neg (by omega)];refine Wk qGX1.1 (An @hclv @hcl5) ?_;refine Cb ?_ ?_<;>intro hc<;>(try exact ⟨⟩)
   .have hil:i<g.vens.length:=by omega
    have hp:=h.vens _ (Ya hil);have hroom:=hp.room;have hfl:=hp.bk.fl;have hidl:=hp.bk.il;have hcl1:=NO.clone_c (g.vens.getD i default).bk.ords (by omega);have hcl2:=cloneF_c (g.vens.getD i default).bk.fills (by omega);have hcl3:=cloneS_c (g.vens.getD i default).bk.ids (by omega);have hcl4:=NO.clone_c (g.vens.getD i default).sent (by omega);have hb1:(vR g.vens).set i (NO.osV (g.vens.getD i default).bk.ords::List.drop 1 ((vR g.vens).getD i []))=vR g.vens:=Z4 _ _ hil _ (by rw[Zt _ _ hil];rfl);have hb2:(vR g.vens).set i (List.take 1 ((vR g.vens).getD i [])++[fsV (g.vens.getD i default).bk.fills]++List.drop 2 ((vR g.vens).getD i []))=vR g.vens:=Z4 _ _ hil _ (by rw[Zt _ _ hil];rfl);have hb3:(vR g.vens).set i (List.take 2 ((vR g.vens).getD i [])++[ssV (g.vens.getD i default).bk.ids]++List.drop 3 ((vR g.vens).getD i []))=vR g.vens:=Z4 _ _ hil _ (by rw[Zt _ _ hil];rfl);have hb4:(vR g.vens).set i (List.take 5 ((vR g.vens).getD i [])++[NO.osV (g.vens.getD i default).sent]++List.drop 6 ((vR g.vens).getD i []))=vR g.vens:=Z4 _ _ hil _ (by rw[Zt _ _ hil];rfl);have hb5:(i=k)=False:=eq_false hik2;refine Wk (An @hb1 (An @hb2 (An @hb3 (An @hb4 (An @hb5 qGX1.1))))) (An @hclv (An @hcl1 (An @hcl2 (An @hcl3 (An @hcl4 @hcl5))))) ?_;refine Za (τ:=ren []) (ν:=[]) (i+1) (show i+1<=g.vens.length by omega) (by omega) ?_;show Le _ _ _ _ (ite _ _ _);rw[if_neg (by omega)];refine Le.of (τ:=[]) (ν:=[]) (by kernel_rfl) ?_ ?_<;>((refine Lw (An @hb1 (An @hb2 (An @hb3 (An @hb4 (An @hb5 qGX1.1))))) ?_;try exact ⟨⟩);try (first|omega|rfl))
   .rw[hv];refine Wk qGX1.1 (An @hclv @hcl5) ?_;refine Fs @results47 ?_;refine ⟨[2,3,4],[(0,2),(1,3),(2,4)],[],by kernel_rfl,?_,?_⟩<;>((refine Lw qGX1.1 ?_;try exact ⟨⟩);try (first|omega|rfl))
abbrev gres (g:Gat) (e:Int):D:=.t [.a (gtC g),.c (.v (vI e))]
theorem set_vR (l:List Ven) (i:Nat) (w:Ven):vR (l.set i w)=(vR l).set i (vnV w):=by
 show (l.set i w).map _=_;rw[List.map_set]
def qGG1:=PLift.up (An @Yl @Zi)
theorem kill_c (g:Gat) (on:Bool) (h:gatP g):ACall prog 93 [] [gtD g,B on] (gres (killG g on).1 (killG g on).2) []:=by
 have hcl:=clone_c g h;have hri:=gateR_c g h;refine Ac func93 ?_;refine Wk qGG1.1 (An @hcl @hri) ?_;refine Cb ?_ ?_<;>intro hc<;>(try exact ⟨⟩)
 .contradiction
 .refine Wk qGG1.1 (An @hcl @hri) ?_;refine Fn @results93 qGG1.1 ?_;try exact ⟨⟩
  exact ⟨⟨rfl,rfl,rfl,rfl,rfl⟩,rfl⟩
theorem upd_row (l:List Ven) (k:Nat) (w:Ven) (R:List V) (hR:R=vnV w):vR (l.set k w)=List.take l.length ((vR l).set k R)/\l.length<=((vR l).set k R).length:=by
 subst hR;rw[set_vR];exact ⟨(List.take_of_length_le (by simp)).symm,by simp⟩
theorem tick_c (g:Gat) (now:Int) (h:gatP g) (r:Gat×Int) (hr:tickG g now=r):ACall prog 17 [] [gtD g,I now] (gres r.1 r.2) []:=by
 have hcl:=clone_c g h;have hri:=gateR_c g h;unfold tickG at hr;refine Ac func17 ?_;refine Wk qGG1.1 (An @hcl @hri) ?_;refine Cb ?_ ?_<;>intro hc<;>(try exact ⟨⟩)
 .rw[if_pos (by omega)]at hr;subst hr;refine Wk qGG1.1 (An @hcl @hri) ?_;refine Fn @results17 qGG1.1 ?_;try exact ⟨⟩
 .rw[if_neg (by omega)]at hr;subst hr;refine Wk qGG1.1 (An @hcl @hri) ?_;refine Fn @results17 qGG1.1 ?_;try exact ⟨⟩
theorem limit_c (g:Gat) (x:NA.Lim) (h:gatP g) (r:Gat×Int) (hr:limitG g x=r):ACall prog 16 [] [gtD g,NA.lD x] (gres r.1 r.2) []:=by
 have hcl:=clone_c g h;have hri:=gateR_c g h;have hl:=h.lims.1;unfold limitG at hr;obtain ⟨⟨l,e⟩,hS⟩:∃y,NA.setL g.lims x=y:=⟨_,rfl⟩
 have hset:=NA.set_c g.lims x (by omega) _ hS;rw[hS]at hr;dsimp only at hr hset;refine Ac func16 ?_;refine Wk qGG1.1 (An @hcl (An @hri @hset)) ?_;refine Cb ?_ ?_<;>intro hc<;>(try exact ⟨⟩)
 .contradiction
 .refine Wk qGG1.1 (An @hcl (An @hri @hset)) ?_;refine Cb ?_ ?_<;>intro hc<;>(try exact ⟨⟩)
  .rw[if_neg hc]at hr;subst hr;refine Wk qGG1.1 (An @hcl (An @hri @hset)) ?_;refine Fn @results16 qGG1.1 ?_;try exact ⟨⟩
  .rw[if_pos hc]at hr;subst hr;subst hc;refine Wk qGG1.1 (An @hcl (An @hri @hset)) ?_;refine Fn @results16 qGG1.1 ?_;try exact ⟨⟩
theorem at_nat {g:Gat} {at_:Int} (h:isAt g at_):∃k:Nat,at_=k/\k<g.vens.length:=⟨at_.toNat,by have:=h.1;omega,by have:=h.1;have:=h.2;omega⟩
theorem gap_c (g:Gat) (at_:Int) (gap:Bool) (h:gatP g) (r:Gat×Int) (hr:gapG g at_ gap=r):ACall prog 94 [] [gtD g,I at_,B gap] (gres r.1 r.2) []:=by
 have hcl:=clone_c g h;unfold gapG at hr;by_cases ha:isAt g at_
 .obtain ⟨k,rfl,hk⟩:=at_nat ha;have hat:=isAt_c g k h true (decide_eq_true ha);rw[if_pos ha]at hr;subst hr;refine Ac func94 ?_;refine Wk qGG1.1 (An @hcl @hat) ?_;refine Cb ?_ ?_<;>intro hc<;>(try exact ⟨⟩)
  .contradiction
  .refine Wk qGG1.1 (An @hcl @hat) ?_;refine Fs @results94 ?_;refine ⟨[],[],[],by kernel_rfl,?_,?_⟩<;>((refine Lw qGG1.1 ?_;try exact ⟨⟩);try (first|omega|rfl))
   exact ⟨upd_row _ _ _ _ (by rw[Zt _ _ hk];rfl),by (repeat' constructor)⟩
 .have hat:=isAt_c g at_ h false (decide_eq_false ha);rw[if_neg ha]at hr;subst hr;refine Ac func94 ?_;refine Wk qGG1.1 (An @hcl @hat) ?_;refine Cb ?_ ?_<;>intro hc<;>(try exact ⟨⟩)
  .refine Wk qGG1.1 (An @hcl @hat) ?_;refine Fn @results94 qGG1.1 ?_;try exact ⟨⟩
  .contradiction
theorem reset_c (g:Gat) (at_:Int) (h:gatP g) (r:Gat×Int) (hr:resetG g at_=r):ACall prog 95 [] [gtD g,I at_] (gres r.1 r.2) []:=by
 have hcl:=clone_c g h;unfold resetG at hr;by_cases ha:isAt g at_
 .obtain ⟨k,rfl,hk⟩:=at_nat ha;have hat:=isAt_c g k h true (decide_eq_true ha);rw[if_pos ha]at hr;refine Ac func95 ?_;refine Wk qGG1.1 (An @hcl @hat) ?_;refine Cb ?_ ?_<;>intro hc<;>(try exact ⟨⟩)
  .contradiction
  .refine Wk qGG1.1 (An @hcl @hat) ?_;refine Cb ?_ ?_<;>intro hc<;>(try exact ⟨⟩)
   .rw[if_pos (show (vat g k).bk.bad=0 from hc)]at hr;subst hr;refine Wk qGG1.1 (An @hcl @hat) ?_;refine Fn @results95 qGG1.1 ?_;try exact ⟨⟩
   .rw[if_neg (show ¬(vat g k).bk.bad=0 from hc)]at hr;subst hr;refine Wk qGG1.1 (An @hcl @hat) ?_;refine Fs @results95 ?_;refine ⟨[],[],[],by kernel_rfl,?_,?_⟩<;>((refine Lw qGG1.1 ?_;try exact ⟨⟩);try (first|omega|rfl))
    exact ⟨upd_row _ _ _ _ (by rw[Zt _ _ hk];rfl),by (repeat' constructor)⟩
 .have hat:=isAt_c g at_ h false (decide_eq_false ha);rw[if_neg ha]at hr;subst hr;refine Ac func95 ?_;refine Wk qGG1.1 (An @hcl @hat) ?_;refine Cb ?_ ?_<;>intro hc<;>(try exact ⟨⟩)
  .refine Wk qGG1.1 (An @hcl @hat) ?_;refine Fn @results95 qGG1.1 ?_;try exact ⟨⟩
  .contradiction
abbrev gres3 (g:Gat) (n e:Int):D:=.t [.a (gtC g),.c (.v (vI n)),.c (.v (vI e))]
def qGH1:=PLift.up (An @Yl @Zi)
theorem order_c (g:Gat) (at_:Int) (o:Ord) (h:gatP g) (r:Gat×Int×Int) (hr:orderG g at_ o=r):ACall prog 18 [] [gtD g,I at_,NO.oD o] (gres3 r.1 r.2.1 r.2.2) []:=by
 have hmay:=NO.may_c (newO o);unfold orderG at hr;by_cases ha:isAt g at_
 .obtain ⟨k,rfl,hk⟩:=at_nat ha;have hat:=isAt_c g k h true (decide_eq_true ha);have hp:=h.vens _ (Ya hk);have hroom:=hp.room
  cases hm:NO.mayB (newO o) with
  | false =>
   rw[if_pos (.inr hm)]at hr;rw[hm]at hmay;subst hr;have hcl:=clone_c g h;refine Ac func18 ?_;refine Wk qGH1.1 (An @hcl (An @hat @hmay)) ?_;refine Cb ?_ ?_<;>intro hc<;>(try exact ⟨⟩)
   .refine Wk qGH1.1 (An @hcl (An @hat @hmay)) ?_;refine Fn @results18 qGH1.1 ?_;try exact ⟨⟩
   .contradiction
  | true =>
   rw[if_neg (fun hh=>hh.elim (fun n=>n ha) (fun n=>by rw[hm]at n;cases n))]at hr;rw[hm]at hmay;have hkn:=known_c (g.vens.getD k default) o.id (by omega) (by omega) _ rfl
   cases hknb:knownV (g.vens.getD k default) o.id with
   | true =>
    rw[if_pos (show knownV (vat g k) o.id=true from hknb)]at hr;rw[hknb]at hkn;subst hr;have hcl:=clone_c g h;refine Ac func18 ?_;refine Wk qGH1.1 (An @hcl (An @hat (An @hmay @hkn))) ?_;refine Cb ?_ ?_<;>intro hc<;>(try exact ⟨⟩)
    .contradiction
    .refine Wk qGH1.1 (An @hcl (An @hat (An @hmay @hkn))) ?_;refine Cb ?_ ?_<;>intro hc<;>(try exact ⟨⟩)
     .refine Wk qGH1.1 (An @hcl (An @hat (An @hmay @hkn))) ?_;refine Fn @results18 qGH1.1 ?_;try exact ⟨⟩
     .contradiction
   | false =>
    rw[if_neg (by show ¬knownV (g.vens.getD k default) o.id=true;rw[hknb];decide)]at hr;rw[hknb]at hkn;have hwhy:=why_c g k (newO o) h hk;by_cases hw:whyG g k (newO o)=0
    .rw[if_neg (fun n=>n hw)]at hr;rw[hw]at hwhy;subst hr;have hcl:=cloneX_c g h k hk;generalize hv:g.vens.getD k default=v at hp hroom hkn hknb hcl;refine Ac func18 ?_;refine Wk qGH1.1 (An @hcl (An @hat (An @hmay (An @hkn @hwhy)))) ?_;refine Cb ?_ ?_<;>intro hc<;>(try exact ⟨⟩)
     .contradiction
     .refine Wk qGH1.1 (An @hcl (An @hat (An @hmay (An @hkn @hwhy)))) ?_;refine Cb ?_ ?_<;>intro hc<;>(try exact ⟨⟩)
      .contradiction
      .refine Wk qGH1.1 (An @hcl (An @hat (An @hmay (An @hkn @hwhy)))) ?_;refine Cb ?_ ?_<;>intro hc<;>(try exact ⟨⟩)
       .contradiction
       ·(repeat (first|refine AWp.seq ?_|refine AWp.block ?_|refine AWp.skip ?_));(first|refine AWp.text (own:=nO) tG_ok (by kernel_rfl) (fun K hK=>?_)|refine AWp.draw (own:=nO) tG_ok mixed (by kernel_rfl) (by kernel_rfl) (fun K hK=>?_));(repeat' (revert hK;intro hK;first|(with_reducible refine hK _ _ _ ?_;clear hK K)|(with_reducible refine hK _ _ _ ?_ ?_;(focus kernel_rfl);clear hK K)|((with_reducible change CallS _ _ _ _ _ _);(first|refine CallS.of hcl ?_|refine CallS.of hat ?_|refine CallS.of hmay ?_|refine CallS.of hkn ?_|refine CallS.of hwhy ?_))|(with_reducible refine And.intro ?_ ?_)|(simp (disch:=omega) only[↓reduceIte,Zo,backT,pos,idsB,idsC,nodup,live,makeSliceE,viewE,viewFE,appendUE,appendFE,capFE,copyE,copySrc,clearE,guardB,isNilOp,nilS,withTy,splice,lenE,appendE,sliceE,boundE,indexAddrE,indexE,buildE,fillE,buildSliceE,partsE,builtinE,minE,minI,convE,convHE,appendNE,capE,D.x,id_eq,eq_self,if_true,if_false,ne_eq,implies_true,Nat.reduceAdd,Nat.reduceMul,Nat.reduceSub,Nat.reduceEqDiff,Nat.reduceLT,Nat.reduceLeDiff,reduceCtorEq,Yl,Zi,Zp,forall_const,Nat.reduceBEq,Int.reduceEq,Int.reduceToNat,bne_self_eq_false,true_and,tyAll])|(first|omega|(intro hq;(try simp only[Zf,ne_eq,Bool.not_not,Bool.and_true]at hq);first|omega|assumption|(simp_all;done))|(simp_all;done))|(intro (bn:Bool) hbn)))
        refine AWp.freeze [384] ?_;refine AWp.shut (r:=384) (by exact rfl) (by exact rfl) (by simp) ?_;refine AWp.le (st2:=mkSt [(6,.p 1 0),(9,.p 0 0)] [(0,.loc (gtO g 2)),(1,.loc gzC),(2,.row 8 (vR (g.vens.set k { v with sent:=v.sent++[newO o] })))] 3) (by refine Le.of (τ:=[(0,448),(1,128),(2,384)]) (ν:=[]) (by kernel_rfl) ?_ ?_<;>((refine Lw qGH1.1 ?_;try exact ⟨⟩);try (first|omega|rfl|exact (set_vR _ _ _).trans (congrArg (fun x=>(vR g.vens).set k [NO.osV v.bk.ords,fsV v.bk.fills,ssV v.bk.ids,vI v.bk.clock,vI v.bk.bad,V.s 8 x,vI v.last,vB v.gap]) (NO.app_row0 v.sent (newO o)).1)))) ?_;refine Wk qGH1.1 (An @hcl (An @hat (An @hmay (An @hkn @hwhy)))) ?_;refine Fn @results18 qGH1.1 ?_;try exact ⟨⟩
        subst hv;exact ⟨⟨(List.take_of_length_le (by simp[setV])).symm,by simp⟩,by (repeat' constructor)⟩
    .rw[if_pos (show whyG g ((k:Int)).toNat (newO o)≠0 from hw)]at hr;subst hr;have hcl:=clone_c g h;refine Ac func18 ?_;refine Wk qGH1.1 (An @hcl (An @hat (An @hmay (An @hkn @hwhy)))) ?_;refine Cb ?_ ?_<;>intro hc<;>(try exact ⟨⟩)
     .contradiction
     .refine Wk qGH1.1 (An @hcl (An @hat (An @hmay (An @hkn @hwhy)))) ?_;refine Cb ?_ ?_<;>intro hc<;>(try exact ⟨⟩)
      .contradiction
      .refine Wk qGH1.1 (An @hcl (An @hat (An @hmay (An @hkn @hwhy)))) ?_;refine Cb ?_ ?_<;>intro hc<;>(try exact ⟨⟩)
       .refine Wk qGH1.1 (An @hcl (An @hat (An @hmay (An @hkn @hwhy)))) ?_;refine Fn @results18 qGH1.1 ?_;try exact ⟨⟩
        rfl
       .exact absurd hc hw
 .have hat:=isAt_c g at_ h false (decide_eq_false ha);rw[if_pos (.inl ha)]at hr;subst hr;have hcl:=clone_c g h;refine Ac func18 ?_;refine Wk qGH1.1 (An @hcl (An @hat @hmay)) ?_;refine Cb ?_ ?_<;>intro hc<;>(try exact ⟨⟩)
  .refine Wk qGH1.1 (An @hcl (An @hat @hmay)) ?_;refine Fn @results18 qGH1.1 ?_;try exact ⟨⟩
  .contradiction
abbrev bkO (b:Bk) (i j:Nat):List C:=[.v (NO.osV b.ords),.o i b.fills.length,.o j b.ids.length,.v (vI b.clock),.v (vI b.bad)]
abbrev bkI (b:Bk):List Blk:=[.loc (bkO b 1 2),.row 9 (fR b.fills),.row 1 (sR b.ids)]
theorem bkI_0 (b:Bk):(bkI b)[0]?=some (.loc (bkO b 1 2)):=rfl
theorem bkI_1 (b:Bk):(bkI b)[1]?=some (.row 9 (fR b.fills)):=rfl
theorem bkI_2 (b:Bk):(bkI b)[2]?=some (.row 1 (sR b.ids)):=rfl
def qBE1:=PLift.up (An @Z0 (An @Zh (An @List.length_append.{0} (An @List.length_singleton.{0} (An @List.length_set.{0} (An @bkI_0 (An @bkI_1 @bkI_2)))))))
theorem own_c (b:Bk) (h1:b.ords.length<=1000000) (h2:b.fills.length<=1000000) (h3:b.ids.length<=1000000):ACall prog 124 [] [bkD b] (.e (.a (bkO b 0 1))) [.row 9 (fR b.fills),.row 1 (sR b.ids)]:=by
 have hcl:=NO.clone_c b.ords h1;refine Ac func124 ?_;refine Wk qBE1.1 (An @hcl (An @cloneF_c @cloneS_c)) ?_;refine Fs @results124 ?_;refine ⟨[576,896],[(0,576),(1,896)],[],by kernel_rfl,?_,?_⟩<;>((refine Lw qBE1.1 ?_;try exact ⟨⟩);try omega)
abbrev bkU (b:Bk):List Blk:=[.loc (bkO b 3 2),.gone,.row 1 (sR b.ids),.row 9 (fR b.fills)]
theorem app_fR (l:List Fil) (f:Fil):fR (l++[f])=fR l++[fV f]:=by simp
theorem bfill_c (b:Bk) (x:Exe) (h1:b.ords.length<=1000000) (h2:b.fills.length<=1000000) (r:Bk×Int) (hr:bfillS b x=r) :
 ACall prog 228 (bkI b) [.p 0 0,xD x] (I r.2) (bkU r.1):=by
 obtain ⟨⟨l,e⟩,hF⟩:∃y,NO.fillS b.ords x.ord x.qty x.price=y:=⟨_,rfl⟩
 have hdo:=NO.fill_c b.ords x.ord x.qty x.price _ hF h1;unfold bfillS at hr;rw[hF]at hr;dsimp only at hr hdo;refine Ac func228 ?_;refine Wk qBE1.1 @hdo ?_;refine Cb ?_ ?_<;>intro hc<;>(try exact ⟨⟩)
 .rw[if_pos hc]at hr;subst hr;refine Wk qBE1.1 @hdo ?_;refine Fs @results228 ?_;refine ⟨[0,2,3139],[(3,3139)],[],by kernel_rfl,?_,?_⟩<;>((refine Lw qBE1.1 ?_;try exact ⟨⟩);try (first|omega|rfl|exact app_fR _ _))
 .rw[if_neg hc]at hr;refine Wk qBE1.1 @hdo ?_;refine Cb ?_ ?_<;>intro hc<;>(try exact ⟨⟩)
  .rw[if_pos hc]at hr;subst hr;refine Wk qBE1.1 @hdo ?_;refine Fs @results228 ?_;refine ⟨[0,2,1],[(3,1)],[],by kernel_rfl,?_,?_⟩<;>((refine Lw qBE1.1 ?_;try exact ⟨⟩);try (first|omega|rfl))
  .rw[if_neg hc]at hr;refine Wk qBE1.1 @hdo ?_;refine Cb ?_ ?_<;>intro hc<;>(try exact ⟨⟩)
   .rw[if_pos hc]at hr;subst hr;refine Wk qBE1.1 @hdo ?_;refine Fs @results228 ?_;refine ⟨[0,2,1],[(3,1)],[],by kernel_rfl,?_,?_⟩<;>((refine Lw qBE1.1 ?_;try exact ⟨⟩);try (first|omega|rfl))
   .rw[if_neg hc]at hr;subst hr;refine Wk qBE1.1 @hdo ?_;refine Fs @results228 ?_;refine ⟨[0,2,1],[(3,1)],[],by kernel_rfl,?_,?_⟩<;>((refine Lw qBE1.1 ?_;try exact ⟨⟩);try (first|omega|rfl))
theorem brepl_c (b:Bk) (x:Exe) (h1:b.ords.length<=1000000) (r:Bk×Int) (hr:breplS b x=r) :
 ACall prog 229 (bkI b) [.p 0 0,xD x] (I r.2) (bkU r.1):=by
 obtain ⟨⟨l,e⟩,hF⟩:∃y,NO.changeS b.ords x.ref x.ord x.qty x.price=y:=⟨_,rfl⟩
 have hdo:=NO.change_c b.ords x.ref x.ord x.qty x.price _ hF h1;unfold breplS at hr;rw[hF]at hr;dsimp only at hr hdo;refine Ac func229 ?_;refine Wk qBE1.1 @hdo ?_;refine Cb ?_ ?_<;>intro hc<;>(try exact ⟨⟩)
 .rw[if_pos hc]at hr;subst hr;refine Wk qBE1.1 @hdo ?_;refine Fs @results229 ?_;refine ⟨[0,2,1],[(3,1)],[],by kernel_rfl,?_,?_⟩<;>((refine Lw qBE1.1 ?_;try exact ⟨⟩);try (first|omega|rfl))
 .rw[if_neg hc]at hr;refine Wk qBE1.1 @hdo ?_;refine Cb ?_ ?_<;>intro hc<;>(try exact ⟨⟩)
  .rw[if_pos hc]at hr;subst hr;refine Wk qBE1.1 @hdo ?_;refine Fs @results229 ?_;refine ⟨[0,2,1],[(3,1)],[],by kernel_rfl,?_,?_⟩<;>((refine Lw qBE1.1 ?_;try exact ⟨⟩);try (first|omega|rfl))
  .rw[if_neg hc]at hr;subst hr;refine Wk qBE1.1 @hdo ?_;refine Fs @results229 ?_;refine ⟨[0,2,1],[(3,1)],[],by kernel_rfl,?_,?_⟩<;>((refine Lw qBE1.1 ?_;try exact ⟨⟩);try (first|omega|rfl))
theorem rowAt_fR (l:List Fil) (ty:Ty) (i off:Nat) (h:i<l.length):rowAt ty (l.map fun f=>[V.x (.string f.id),V.x (.string f.ord),V.x (.string f.acc),V.x (.string f.sym),V.x (.bool f.buy),V.x (.int .i64 f.qty),V.x (.int .i64 f.price),V.x (.int .i64 f.time),V.x (.bool f.lv)]) i off=(fV (l.getD i default)).drop off:=rowAt_map _ l ty i off h
theorem z2:zeroV ty2=[V.x (.int .i64 0)]:=by kernel_rfl
theorem z4:zeroV ty4=[V.x (.bool false)]:=by kernel_rfl
theorem rowAt_fh (l:List Fil) (i:Nat):(rowAt ty4 (fR l) i 8).headD default=.x (.bool (l.getD i default).lv)/\(rowAt ty2 (fR l) i 7).headD default=.x (.int .i64 (l.getD i default).time):=by
 unfold rowAt;rw[List.getElem?_map,List.getD_eq_getElem?_getD]
 cases l[i]? with
 | none=>exact ⟨by simp only[Option.map_none,z4];rfl,by simp only[Option.map_none,z2];rfl⟩
 | some x=>exact ⟨rfl,rfl⟩
theorem rowAt_sF (f:Fil->List V) (l:List Fil) (i:Nat) (x:List V) (ty:Ty) (off:Nat) (h:i<l.length):rowAt ty ((l.map f).set i x) i off=x.drop off:=by
 unfold rowAt;simp[List.getD_eq_getElem?_getD,h]
theorem getD_sV (rows:List (List V)) (i:Nat) (y:List V) (h:i<rows.length):(rows.set i y).getD i []=y:=by simp[List.getD_eq_getElem?_getD,h]
theorem set_fR (l:List Fil) (i:Nat) (g:Fil):fR (l.set i g)=(fR l).set i (fV g):=by
 show (l.set i g).map _=_;rw[List.map_set]
def qBH1:=PLift.up (An @Z0 (An @Zh (An @List.length_append.{0} (An @List.length_singleton.{0} (An @List.length_set.{0} (An @bkI_0 (An @bkI_1 (An @bkI_2 (An @rowAt_fR (An @rowAt_fh @rowAt_sF))))))))))
theorem bamend_c (b:Bk) (x:Exe) (h1:b.ords.length<=1000000) (h2:b.fills.length<=1000000) (ht:∀f,f∈b.fills->0<=f.time/\f.time<=4611686018427387904) (hx:0<=x.time/\x.time<=4611686018427387904) (r:Bk×Int) (hr:bamendS b x=r) :
 ACall prog 227 (bkI b) [.p 0 0,xD x] (I r.2) (bkU r.1):=by
 have hix:=indexF_c b.fills x h2;have hlt:-1<=refI b.fills x/\refI b.fills x<b.fills.length:=fstI_lt _ _;unfold bamendS at hr;generalize hI:refI b.fills x=n at hix hr hlt;by_cases hn:n<0
 .rw[if_pos hn]at hr;subst hr;have hw1:decide (n<0)=true:=decide_eq_true hn;have hw2:True:=trivial;have hw3:True:=trivial;refine Ac func227 ?_;refine Wk (An @hw1 (An @hw2 (An @hw3 qBH1.1))) @hix ?_;refine Cb ?_ ?_<;>intro hc<;>(try exact ⟨⟩)
  .refine Wk (An @hw1 (An @hw2 (An @hw3 qBH1.1))) @hix ?_;refine Fs @results227 ?_;refine ⟨[0,2,1],[(3,1)],[],by kernel_rfl,?_,?_⟩<;>((refine Lw (An @hw1 (An @hw2 (An @hw3 qBH1.1))) ?_;try exact ⟨⟩);try (first|omega|rfl))
  .contradiction
 .rw[if_neg hn]at hr;obtain ⟨k,rfl⟩:∃k:Nat,n=k:=⟨n.toNat,by omega⟩
  have hk:k<b.fills.length:=by omega
  have htf:=ht _ (getD_memF hk);have e0:((k:Int)).toNat=k:=rfl;rw[e0]at hr;generalize hf:b.fills.getD k default=f at hr htf;have hg:(fR b.fills).getD k []=fV f:=by rw[<-hf];exact getD_map _ _ _ hk
  have hw1:=Zn (x.time - f.time) (by omega) (by omega);have hw2:decide ((k:Int)<0)=false:=decide_eq_false (by omega);have hw3:=hf;obtain ⟨⟨o,ob⟩,hF⟩:∃y,NO.findS b.ords f.ord=y:=⟨_,rfl⟩
  have hfind:=NO.find_c b.ords f.ord _ hF h1;have hfair:=bfair_c o f.buy x.price _ rfl;rw[hF]at hr;dsimp only at hr hfind;refine Ac func227 ?_;refine Wk (An @hw1 (An @hw2 (An @hw3 qBH1.1))) (An @hix (An @hfind @hfair)) ?_;refine Cb ?_ ?_<;>intro hc<;>(try exact ⟨⟩)
  .rw[if_pos (by simpa using hc)]at hr;subst hr;refine Wk (An @hw1 (An @hw2 (An @hw3 qBH1.1))) (An @hix (An @hfind @hfair)) ?_;refine Fs @results227 ?_;refine ⟨[0,2,1],[(3,1)],[],by kernel_rfl,?_,?_⟩<;>((refine Lw (An @hw1 (An @hw2 (An @hw3 qBH1.1))) ?_;try exact ⟨⟩);try (first|omega|rfl))
  .rw[if_neg (by simpa using hc)]at hr;refine Wk (An @hw1 (An @hw2 (An @hw3 qBH1.1))) (An @hix (An @hfind @hfair)) ?_;refine Cb ?_ ?_<;>intro hc<;>(try exact ⟨⟩)
   .rw[if_pos (by simpa[difN,or_assoc] using hc)]at hr;subst hr;refine Wk (An @hw1 (An @hw2 (An @hw3 qBH1.1))) (An @hix (An @hfind @hfair)) ?_;refine Fs @results227 ?_;refine ⟨[0,2,1],[(3,1)],[],by kernel_rfl,?_,?_⟩<;>((refine Lw (An @hw1 (An @hw2 (An @hw3 qBH1.1))) ?_;try exact ⟨⟩);try (first|omega|rfl))
   .rw[if_neg (by simpa[difN,and_assoc] using hc)]at hr;refine Wk (An @hw1 (An @hw2 (An @hw3 qBH1.1))) (An @hix (An @hfind @hfair)) ?_;refine Cb ?_ ?_<;>intro hc<;>(try exact ⟨⟩)
    .rw[if_pos hc]at hr;subst hr;refine Wk (An @hw1 (An @hw2 (An @hw3 qBH1.1))) (An @hix (An @hfind @hfair)) ?_;refine Fs @results227 ?_;refine ⟨[0,2,1],[(3,1)],[],by kernel_rfl,?_,?_⟩<;>((refine Lw (An @hw1 (An @hw2 (An @hw3 qBH1.1))) ?_;try exact ⟨⟩);try (first|omega|rfl))
     rw[set_fR,hg];rfl
    .rw[if_neg hc]at hr;refine Wk (An @hw1 (An @hw2 (An @hw3 qBH1.1))) (An @hix (An @hfind @hfair)) ?_;refine Cb ?_ ?_<;>intro hc<;>(try exact ⟨⟩)
     .rw[if_pos hc]at hr;subst hr;refine Wk (An @hw1 (An @hw2 (An @hw3 qBH1.1))) (An @hix (An @hfind @hfair)) ?_;refine Fs @results227 ?_;refine ⟨[0,2,1],[(3,1)],[],by kernel_rfl,?_,?_⟩<;>((refine Lw (An @hw1 (An @hw2 (An @hw3 qBH1.1))) ?_;try exact ⟨⟩);try (first|omega|rfl))
     .rw[if_neg hc]at hr
      cases ob with
      | false =>
       rw[if_pos (.inl rfl)]at hr;subst hr;refine Wk (An @hw1 (An @hw2 (An @hw3 qBH1.1))) (An @hix (An @hfind @hfair)) ?_;refine Cb ?_ ?_<;>intro hc<;>(try exact ⟨⟩)
       .refine Wk (An @hw1 (An @hw2 (An @hw3 qBH1.1))) (An @hix (An @hfind @hfair)) ?_;refine Fs @results227 ?_;refine ⟨[0,2,1],[(3,1)],[],by kernel_rfl,?_,?_⟩<;>((refine Lw (An @hw1 (An @hw2 (An @hw3 qBH1.1))) ?_;try exact ⟨⟩);try (first|omega|rfl))
       .contradiction
      | true =>
       refine Wk (An @hw1 (An @hw2 (An @hw3 qBH1.1))) (An @hix (An @hfind @hfair)) ?_;refine Cb ?_ ?_<;>intro hc<;>(try exact ⟨⟩)
       .rw[if_pos (.inr (by simpa using hc))]at hr;subst hr;refine Wk (An @hw1 (An @hw2 (An @hw3 qBH1.1))) (An @hix (An @hfind @hfair)) ?_;refine Fs @results227 ?_;refine ⟨[0,2,1],[(3,1)],[],by kernel_rfl,?_,?_⟩<;>((refine Lw (An @hw1 (An @hw2 (An @hw3 qBH1.1))) ?_;try exact ⟨⟩);try (first|omega|rfl))
       .rw[if_neg (by simpa using hc)]at hr;subst hr;refine Wk (An @hw1 (An @hw2 (An @hw3 qBH1.1))) (An @hix (An @hfind @hfair)) ?_;refine Fs @results227 ?_;refine ⟨[0,2,1],[(3,1)],[],by kernel_rfl,?_,?_⟩<;>((refine Lw (An @hw1 (An @hw2 (An @hw3 qBH1.1))) ?_;try exact ⟨⟩);try (first|omega|rfl))
        rw[set_fR,hg,List.set_set,getD_sV _ _ _ (by simpa using hk)];rfl
def qBI1:=PLift.up (An @Z0 (An @Zh (An @List.length_append.{0} (An @List.length_singleton.{0} (An @List.length_set.{0} (An @bkI_0 (An @bkI_1 @bkI_2)))))))
theorem bapply_c (b:Bk) (x:Exe) (h1:b.ords.length<=1000000) (h2:b.fills.length<=1000000) (ht:∀f,f∈b.fills->0<=f.time/\f.time<=4611686018427387904) (hx:0<=x.time/\x.time<=4611686018427387904) (r:Bk×Int) (hr:applyS b x=r) :
 ACall prog 183 (bkI b) [.p 0 0,xD x] (I r.2) (bkU r.1):=by
 have hnew:=NO.new_c b.ords (nwX x) _ rfl h1;have hamend:=bamend_c b x h1 h2 ht hx _ rfl;have hfill:=bfill_c b x h1 h2 _ rfl;have hrepl:=brepl_c b x h1 _ rfl;have hclose:=NO.close_c b.ords x.ord _ rfl h1;have hfind:=NO.find_c b.ords (if x.kind=4 then x.ref else x.ord) _ rfl h1;unfold applyS at hr;refine Ac func183 ?_;refine Wk qBI1.1 (An @hnew (An @hamend (An @hfind (An @hfill (An @hrepl @hclose))))) ?_;refine Cb ?_ ?_<;>intro hc<;>(try exact ⟨⟩)
 .rw[if_pos hc]at hr;subst hr;refine Wk qBI1.1 (An @hnew (An @hamend (An @hfind (An @hfill (An @hrepl @hclose))))) ?_;refine Fs @results183 ?_;refine ⟨[0,2,1],[(3,1)],[],by kernel_rfl,?_,?_⟩<;>((refine Lw qBI1.1 ?_;try exact ⟨⟩);try (first|omega|rfl))
 .rw[if_neg hc]at hr;refine Wk qBI1.1 (An @hnew (An @hamend (An @hfind (An @hfill (An @hrepl @hclose))))) ?_;refine Cb ?_ ?_<;>intro hc<;>(try exact ⟨⟩)
  .rw[if_pos hc]at hr;refine Wk qBI1.1 (An @hnew (An @hamend (An @hfind (An @hfill (An @hrepl @hclose))))) ?_;refine Cb ?_ ?_<;>intro hc<;>(try exact ⟨⟩)
   .rw[if_neg hc]at hr;subst hr;refine Wk qBI1.1 (An @hnew (An @hamend (An @hfind (An @hfill (An @hrepl @hclose))))) ?_;refine Fs @results183 ?_;refine ⟨[0,2,1],[(3,1)],[],by kernel_rfl,?_,?_⟩<;>((refine Lw qBI1.1 ?_;try exact ⟨⟩);try (first|omega|rfl))
   .rw[if_pos hc]at hr;subst hr;refine Wk qBI1.1 (An @hnew (An @hamend (An @hfind (An @hfill (An @hrepl @hclose))))) ?_;refine Fs @results183 ?_;refine ⟨[0,2,1],[(3,1)],[],by kernel_rfl,?_,?_⟩<;>((refine Lw qBI1.1 ?_;try exact ⟨⟩);try (first|omega|rfl))
  .rw[if_neg hc]at hr;refine Wk qBI1.1 (An @hnew (An @hamend (An @hfind (An @hfill (An @hrepl @hclose))))) ?_;refine Cb ?_ ?_<;>intro hc<;>(try exact ⟨⟩)
   .rw[if_pos (.inl hc)]at hr;subst hr;refine Wk qBI1.1 (An @hnew (An @hamend (An @hfind (An @hfill (An @hrepl @hclose))))) ?_;refine Cb ?_ ?_<;>intro hc<;>(try exact ⟨⟩)
    .refine Wk qBI1.1 (An @hnew (An @hamend (An @hfind (An @hfill (An @hrepl @hclose))))) ?_;refine Fs @results183 ?_;refine ⟨[0,2,1091],[(3,1091)],[],by kernel_rfl,?_,?_⟩<;>((refine Lw qBI1.1 ?_;try exact ⟨⟩);try (first|omega|rfl))
    .omega
   .have hk7:=hc;refine Wk qBI1.1 (An @hnew (An @hamend (An @hfind (An @hfill (An @hrepl @hclose))))) ?_;refine Cb ?_ ?_<;>intro hc<;>(try exact ⟨⟩)
    .rw[if_pos (.inr hc)]at hr;subst hr;refine Wk qBI1.1 (An @hnew (An @hamend (An @hfind (An @hfill (An @hrepl @hclose))))) ?_;refine Fs @results183 ?_;refine ⟨[0,2,1219],[(3,1219)],[],by kernel_rfl,?_,?_⟩<;>((refine Lw qBI1.1 ?_;try exact ⟨⟩);try (first|omega|rfl))
    .have hk8:=hc;rw[if_neg (fun h=>h.elim hk7 hk8)]at hr;generalize hfo:NO.findS b.ords (if x.kind=4 then x.ref else x.ord)=fo at hr hfind;by_cases hk4:x.kind=4
     .rw[if_pos hk4]at hfind;refine Wk qBI1.1 (An @hnew (An @hamend (An @hfind (An @hfill (An @hrepl @hclose))))) ?_;refine Cb ?_ ?_<;>intro hc<;>(try exact ⟨⟩)
      .refine Wk qBI1.1 (An @hnew (An @hamend (An @hfind (An @hfill (An @hrepl @hclose))))) ?_;refine Cb ?_ ?_<;>intro hc<;>(try exact ⟨⟩)
       .rw[if_pos (by simpa using hc)]at hr;subst hr;refine Wk qBI1.1 (An @hnew (An @hamend (An @hfind (An @hfill (An @hrepl @hclose))))) ?_;refine Fs @results183 ?_;refine ⟨[0,2,1],[(3,1)],[],by kernel_rfl,?_,?_⟩<;>((refine Lw qBI1.1 ?_;try exact ⟨⟩);try (first|omega|rfl))
       .rw[if_neg (by simpa using hc)]at hr;refine Wk qBI1.1 (An @hnew (An @hamend (An @hfind (An @hfill (An @hrepl @hclose))))) ?_;refine Cb ?_ ?_<;>intro hc<;>(try exact ⟨⟩)
        .rw[if_pos (by simpa[difO,or_assoc] using hc)]at hr;subst hr;refine Wk qBI1.1 (An @hnew (An @hamend (An @hfind (An @hfill (An @hrepl @hclose))))) ?_;refine Fs @results183 ?_;refine ⟨[0,2,1],[(3,1)],[],by kernel_rfl,?_,?_⟩<;>((refine Lw qBI1.1 ?_;try exact ⟨⟩);try (first|omega|rfl))
        .rw[if_neg (by simpa[difO,and_assoc] using hc)]at hr;rw[if_neg (by omega),if_pos hk4]at hr;subst hr;refine Wk qBI1.1 (An @hnew (An @hamend (An @hfind (An @hfill (An @hrepl @hclose))))) ?_;refine Cb ?_ ?_<;>intro hc<;>(try exact ⟨⟩)
         .omega
         .refine Wk qBI1.1 (An @hnew (An @hamend (An @hfind (An @hfill (An @hrepl @hclose))))) ?_;refine Cb ?_ ?_<;>intro hc<;>(try exact ⟨⟩)
          .refine Wk qBI1.1 (An @hnew (An @hamend (An @hfind (An @hfill (An @hrepl @hclose))))) ?_;refine Fs @results183 ?_;refine ⟨[0,2,4611],[(3,4611)],[],by kernel_rfl,?_,?_⟩<;>((refine Lw qBI1.1 ?_;try exact ⟨⟩);try (first|omega|rfl))
          .omega
      .omega
     .rw[if_neg hk4]at hfind;refine Wk qBI1.1 (An @hnew (An @hamend (An @hfind (An @hfill (An @hrepl @hclose))))) ?_;refine Cb ?_ ?_<;>intro hc<;>(try exact ⟨⟩)
      .omega
      .refine Wk qBI1.1 (An @hnew (An @hamend (An @hfind (An @hfill (An @hrepl @hclose))))) ?_;refine Cb ?_ ?_<;>intro hc<;>(try exact ⟨⟩)
       .rw[if_pos (by simpa using hc)]at hr;subst hr;refine Wk qBI1.1 (An @hnew (An @hamend (An @hfind (An @hfill (An @hrepl @hclose))))) ?_;refine Fs @results183 ?_;refine ⟨[0,2,1],[(3,1)],[],by kernel_rfl,?_,?_⟩<;>((refine Lw qBI1.1 ?_;try exact ⟨⟩);try (first|omega|rfl))
       .rw[if_neg (by simpa using hc)]at hr;refine Wk qBI1.1 (An @hnew (An @hamend (An @hfind (An @hfill (An @hrepl @hclose))))) ?_;refine Cb ?_ ?_<;>intro hc<;>(try exact ⟨⟩)
        .rw[if_pos (by simpa[difO,or_assoc] using hc)]at hr;subst hr;refine Wk qBI1.1 (An @hnew (An @hamend (An @hfind (An @hfill (An @hrepl @hclose))))) ?_;refine Fs @results183 ?_;refine ⟨[0,2,1],[(3,1)],[],by kernel_rfl,?_,?_⟩<;>((refine Lw qBI1.1 ?_;try exact ⟨⟩);try (first|omega|rfl))
        .rw[if_neg (by simpa[difO,and_assoc] using hc)]at hr;refine Wk qBI1.1 (An @hnew (An @hamend (An @hfind (An @hfill (An @hrepl @hclose))))) ?_;refine Cb ?_ ?_<;>intro hc<;>(try exact ⟨⟩)
         .rw[if_pos hc]at hr;subst hr;refine Wk qBI1.1 (An @hnew (An @hamend (An @hfind (An @hfill (An @hrepl @hclose))))) ?_;refine Fs @results183 ?_;refine ⟨[0,2,4291],[(3,4291)],[],by kernel_rfl,?_,?_⟩<;>((refine Lw qBI1.1 ?_;try exact ⟨⟩);try (first|omega|rfl))
         .rw[if_neg hc,if_neg hk4]at hr;refine Wk qBI1.1 (An @hnew (An @hamend (An @hfind (An @hfill (An @hrepl @hclose))))) ?_;refine Cb ?_ ?_<;>intro hc<;>(try exact ⟨⟩)
          .omega
          .refine Wk qBI1.1 (An @hnew (An @hamend (An @hfind (An @hfill (An @hrepl @hclose))))) ?_;refine Cb ?_ ?_<;>intro hc<;>(try exact ⟨⟩)
           .rw[if_neg hc]at hr;subst hr;refine Wk qBI1.1 (An @hnew (An @hamend (An @hfind (An @hfill (An @hrepl @hclose))))) ?_;refine Fs @results183 ?_;refine ⟨[0,2,1],[(3,1)],[],by kernel_rfl,?_,?_⟩<;>((refine Lw qBI1.1 ?_;try exact ⟨⟩);try (first|omega|rfl))
           .rw[if_pos hc]at hr;subst hr;refine Wk qBI1.1 (An @hnew (An @hamend (An @hfind (An @hfill (An @hrepl @hclose))))) ?_;refine Fs @results183 ?_;refine ⟨[0,2,1],[(3,1)],[],by kernel_rfl,?_,?_⟩<;>((refine Lw qBI1.1 ?_;try exact ⟨⟩);try (first|omega|rfl))
theorem app_sR0 (l:List ByteArray) (s:ByteArray):sR (l++[s])=sR l++[[V.x (.string s)]]:=by simp
abbrev bkT (b:Bk):List Blk:=[.loc (bkO b 3 4),.gone,.gone,.row 9 (fR b.fills),.row 1 (sR b.ids)]
def qBJ1:=PLift.up (An @Z0 (An @Zh (An @List.length_append.{0} (An @List.length_singleton.{0} (An @List.length_set.{0} (An @bkI_0 (An @bkI_1 @bkI_2)))))))
theorem btake_c (b:Bk) (x:Exe) (h1:b.ords.length<=1000000) (h2:b.fills.length<=1000000) (h3:b.ids.length<=1000) (ht:∀f,f∈b.fills->0<=f.time/\f.time<=4611686018427387904) (hx:0<=x.time/\x.time<=4611686018427387904) (r:Bk×Int) (hr:takeS b x=r) :
 ACall prog 125 (bkI b) [.p 0 0,xD x] (I r.2) (bkT r.1):=by
 have hcont:=containsS_c b.ids x.id (by omega) _ rfl
 have happ:ACall prog 183 [.loc [.v (NO.osV b.ords),.o 1 b.fills.length,.o 2 (b.ids.length+1),.v (vI b.clock),.v (vI b.bad)],.row 9 (fR b.fills),.row 1 (sR b.ids++[[vS x.id]])] [.p 0 0,xD x] (I (applyS { b with ids:=b.ids++[x.id] } x).2) (bkU (applyS { b with ids:=b.ids++[x.id] } x).1):=by
  have h:=bapply_c { b with ids:=b.ids++[x.id] } x h1 h2 ht hx _ rfl;have e1:(b.ids++[x.id]).length=b.ids.length+1:=by simp
  unfold bkI bkO at h;dsimp only at h;rw[e1,app_sR0]at h;exact h
 unfold takeS at hr;refine Ac func125 ?_;refine Wk qBJ1.1 (An @hcont @happ) ?_;refine Cb ?_ ?_<;>intro hc<;>(try exact ⟨⟩)
 .rw[if_pos (by omega)]at hr;subst hr;refine Wk qBJ1.1 (An @hcont @happ) ?_;refine Fs @results125 ?_;refine ⟨[0,1,2],[(3,1),(4,2)],[],by kernel_rfl,?_,?_⟩<;>((refine Lw qBJ1.1 ?_;try exact ⟨⟩);try (first|omega|rfl))
 .rw[if_neg (by omega)]at hr;refine Wk qBJ1.1 (An @hcont @happ) ?_;refine Cb ?_ ?_<;>intro hc<;>(try exact ⟨⟩)
  .rw[if_pos hc]at hr;subst hr;refine Wk qBJ1.1 (An @hcont @happ) ?_;refine Fs @results125 ?_;refine ⟨[0,1,2],[(3,1),(4,2)],[],by kernel_rfl,?_,?_⟩<;>((refine Lw qBJ1.1 ?_;try exact ⟨⟩);try (first|omega|rfl))
  .rw[if_neg (by rw[hc];decide)]at hr;refine Wk qBJ1.1 (An @hcont @happ) ?_;refine Cb ?_ ?_<;>intro hc<;>(try exact ⟨⟩)
   .rw[if_neg hc]at hr;subst hr;refine Wk qBJ1.1 (An @hcont @happ) ?_;refine Fs @results125 ?_;refine ⟨[0,2307,1923],[(3,2307),(4,1923)],[],by kernel_rfl,?_,?_⟩<;>((refine Lw qBJ1.1 ?_;try exact ⟨⟩);try (first|omega|rfl))
   .rw[if_pos hc]at hr;subst hr;refine Wk qBJ1.1 (An @hcont @happ) ?_;refine Fs @results125 ?_;refine ⟨[0,2307,1923],[(3,2307),(4,1923)],[],by kernel_rfl,?_,?_⟩<;>((refine Lw qBJ1.1 ?_;try exact ⟨⟩);try (first|omega|rfl))
end Eng
end Go.Proofs.YtgenjpingdkmgaaGreatDoor
