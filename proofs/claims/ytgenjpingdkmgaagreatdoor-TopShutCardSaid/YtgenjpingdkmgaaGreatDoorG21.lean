/- Contracts of functions that this seat's law calls. No condition. -/
import Derived.Test.YtgenjpingdkmgaaGreatDoorG20
set_option maxRecDepth 100000
set_option linter.unusedSimpArgs false
set_option linter.unusedVariables false
open Go.Proofs.Tryz
namespace Go.Proofs.YtgenjpingdkmgaaGreatDoor
namespace Eng
namespace ND
def dI (m:Bool):Int:=if m then 1 else 0
def iN (m:Bool):Nat:=if m then 256 else 0
theorem dI_t:dI true=1:=rfl
theorem iN_t:iN true=256:=rfl
theorem made (m:Bool):(dI m=0/\iN m=0)\/(dI m=1/\iN m=256):=by cases m<;>simp[dI,iN]
theorem tz122:tG 304=some ty304/\zeroC ty304=tabC (dI false) 0 (iN false):=⟨by kernel_rfl,by kernel_rfl⟩
theorem crcF_nil (n:BitVec 32):crcF n []=n:=rfl
theorem crcF_app (n:BitVec 32) (xs ys:List Int):crcF n (xs++ys)=crcF (crcF n xs) ys:=List.foldl_append ..
theorem crcF_succ (n:BitVec 32) (xs:List Int) (j:Nat) (h:j<xs.length):(crcF n (xs.take j) >>> 8) ^^^ tab (BitVec.setWidth 8 (crcF n (xs.take j)) ^^^ BitVec.ofInt 8 (xs.getD j 0))=crcF n (xs.take (j+1)):=by
 rw[List.take_add_one,crcF_app,List.getElem?_eq_getElem h,List.getD_eq_getElem?_getD,List.getElem?_eq_getElem h];rfl
theorem crcF_part (n:BitVec 32) (xss:List (List Int)) (k:Nat) (h:k<xss.length):crcF (crcF n (xss.take k).flatten) (xss.getD k default)=crcF n (xss.take (k+1)).flatten:=by
 rw[take_succ_flat xss k h,crcF_app]
theorem zDC62 {R G:Prop} (k:R) (h:Box R->G:=by
 intro k;simp (disch:=omega) only[↓reduceIte,Zx,Nat.reduceEqDiff,Nat.reduceAdd,if_true,if_false,reduceCtorEq,eq_self,Nat.reduceBEq,Nat.mul_one,Int.mul_one,nO_eq,oF_eq,Nat.reduceBEq,Bool.true_or,Bool.false_or,Bool.or_false,Z8,Zn,Int.reduceEq,decide_false,Bool.false_eq_true,false_implies,forall_const,Bool.not_true,Bool.not_false,BEq.rfl,Nat.reduceLT,bv_shr8,bv_shr8b,bv_low,bv_xor8,bv_xor,un_not,Int.toNat_natCast,List.length_cons,Yf,dI_t,iN_t,sums_le,sums_ids,sums_ren,getD_mapD,getD_rB,h1,h2,tl3,tl5,tl24,tl246,tl157,tz122]
 all_goals exact k.out):G:=h ⟨k⟩
theorem zDC61 {R G:Prop} (k:R) (h:Box R->G:=by
 intro k
 repeat' (first|((fail_if_success clear hK);change AWp _ _ _ _ _ _;first|refine AWp.seq ?_|refine AWp.text (own:=nO) tG_ok (by kernel_rfl) (fun K hK=>?_)|refine AWp.draw (own:=nO) tG_ok mixed (by kernel_rfl) (by kernel_rfl) (fun K hK=>?_)|refine AWp.skip ?_|refine AWp.ret ?_|refine AWp.exit ?_|refine AWp.label ?_|refine AWp.block ?_)|(revert hK;intro hK;first|(with_reducible refine hK _ _ _ ?_;clear hK K)|(with_reducible refine hK _ _ _ ?_ ?_;(focus kernel_rfl);clear hK K)|((with_reducible change CallS _ _ _ _ _ _);(first|refine CallS.of (of_c _ (dI m) (iN m) (made m)) ?_))|(with_reducible refine And.intro ?_ ?_)|(simp (disch:=omega) only[↓reduceIte,Zo,backT,pos,idsB,idsC,nodup,live,makeSliceE,viewE,viewFE,appendUE,appendFE,capFE,copyE,copySrc,clearE,guardB,isNilOp,nilS,withTy,splice,lenE,appendE,sliceE,boundE,indexAddrE,indexE,buildE,fillE,buildSliceE,partsE,builtinE,minE,minI,convE,convHE,appendNE,capE,D.x,id_eq,eq_self,if_true,if_false,ne_eq,implies_true,Nat.reduceAdd,Nat.reduceMul,Nat.reduceSub,Nat.reduceEqDiff,Nat.reduceLT,Nat.reduceLeDiff,reduceCtorEq,Nat.mul_one,Int.mul_one,nO_eq,oF_eq,Nat.reduceBEq,Bool.true_or,Bool.false_or,Bool.or_false,Z8,Zn,Int.reduceEq,decide_false,Bool.false_eq_true,false_implies,forall_const,Bool.not_true,Bool.not_false,BEq.rfl,Nat.reduceLT,bv_shr8,bv_shr8b,bv_low,bv_xor8,bv_xor,un_not,Int.toNat_natCast,List.length_cons,Yf,dI_t,iN_t,sums_le,sums_ids,sums_ren,getD_mapD,getD_rB,h1,h2,true_and,tl3,tl5,tl24,tl246,tl157,tz122])|(first|omega|(intro hq;(try simp only[Zf,ne_eq,Bool.not_not,Bool.and_true]at hq);first|omega|assumption|(simp_all;done))|(simp_all;done))|(intro (bn:Bool) hbn)))
 all_goals exact k.out):G:=h ⟨k⟩
theorem sumOf_c (xss:List (List Int)) (hl:xss.length<=1000) (hlx:∀k,(xss.getD k default).length<=4611686018427387904):ACall prog 153 [] [SS xss] (W32 (crcS xss.flatten)) []:=by
 have h1:True:=trivial;have h2:True:=trivial;refine Ac func153 ?_;refine zDC61 ?_
 refine AWp.loop (τ:=ren [(0,64)]) (fun b:Nat×Bool=>mkSt [(3,.p 0 0),(4,W32 (crcF 4294967295#32 (xss.take b.1).flatten)),(9,SS xss),(10,I xss.length),(11,I b.1)] [(0,.loc (tabC (dI b.2) 0 (iN b.2)))] 1)
  (fun b=>b.1<=xss.length) (fun b=>xss.length - b.1) (0,false) (Nat.zero_le _) (by refine Le.of (ν:=[]) (by kernel_rfl) ?_ ?_<;>((first|exact zDC62 trivial|refine zDC62 ?_);try rfl)) fun b hb=>?_
 obtain ⟨k,m⟩:=b;dsimp only at hb ⊢;refine zDC61 ?_;refine Cb ?_ ?_<;>intro hc<;>(try exact ⟨⟩)
 .have hk:k<xss.length:=by omega
  have h3:=crcF_part 4294967295#32 xss k hk;refine zDC61 ?_;obtain ⟨n,hn⟩:∃n,crcF 4294967295#32 (xss.take k).flatten=n:=⟨_,rfl⟩
  obtain ⟨xs,hx⟩:∃xs,xss.getD k default=xs:=⟨_,rfl⟩
  rw[hn,hx]at h3;have hxl:=hlx k;rw[hx]at hxl
  refine AWp.loop (fun b:Nat×Bool=>mkSt [(3,.p 0 0),(4,W32 (crcF n (xs.take b.1))),(9,SS xss),(10,I xss.length),(11,I k),(15,SB xs),(16,I xs.length),(17,I b.1)] [(0,.loc (tabC (dI b.2) 0 (iN b.2)))] 1)
   (fun b=>b.1<=xs.length) (fun b=>xs.length - b.1) (0,m) (Nat.zero_le _) (by refine Le.of (τ:=[]) (ν:=[]) (by kernel_rfl) ?_ ?_<;>((first|exact zDC62 trivial|refine zDC62 ?_);try (refine ⟨by rw[hn,List.take_zero,crcF_nil],by rw[hx],by rw[hx]⟩))) fun b hb2=>?_
  obtain ⟨j,m⟩:=b;dsimp only at hb2 ⊢;refine zDC61 ?_;refine Cb ?_ ?_<;>intro hc<;>(try exact ⟨⟩)
  .have h1:=crcF_succ n xs j (by omega);refine zDC61 ?_;refine Za (j+1,true) (by dsimp only;omega) (by dsimp only;omega) (by refine Le.of (τ:=[]) (ν:=[]) (by kernel_rfl) ?_ ?_<;>((first|exact zDC62 trivial|refine zDC62 ?_);try omega))
  .obtain rfl:j=xs.length:=by omega
   have h1:crcF n (xs.take xs.length)=crcF 4294967295#32 (xss.take (k+1)).flatten:=by rw[List.take_length];exact h3
   refine zDC61 ?_;refine Za (k+1,m) (by dsimp only;omega) (by dsimp only;omega) (by refine Le.of (τ:=[]) (ν:=[]) (by kernel_rfl) ?_ ?_<;>((first|exact zDC62 trivial|refine zDC62 ?_);try omega))
 .obtain rfl:k=xss.length:=by omega
  refine zDC61 ?_;change Fin _ _ _ _ _ _;simp only[fe_all,id_eq,Nat.reduceLeDiff,↓reduceIte,Zx,Nat.reduceEqDiff,Nat.reduceAdd,if_true,if_false,reduceCtorEq,eq_self,Nat.reduceBEq,results153,tl3,tl5,tl24,tl246,tl157,tz122];refine ⟨[],[],[],by kernel_rfl,?_,?_⟩<;>((first|exact zDC62 trivial|refine zDC62 ?_);try omega)
  rw[crcS,List.take_length]
end ND
namespace ND
theorem u8_nat (n:Nat):IntKind.u8.wrap (n:Int)=((n % 256:Nat):Int):=by
 simp only[IntKind.wrap,IntKind.bits,IntKind.signed];simp
theorem len_hi (xs:List Int):IntKind.u8.wrap ((xs.length:Int).fdiv (2 ^ (min (Int.toNat 8) IntKind.i64.bits)))=((xs.length / 256 % 256:Nat):Int):=by
 have:(2:Int) ^ (min (Int.toNat 8) IntKind.i64.bits)=256:=by decide
 rw[this,Int.fdiv_eq_ediv_of_nonneg _ (by omega),show (xs.length:Int) / 256=((xs.length / 256:Nat):Int) by omega,u8_nat]
theorem len_lo (xs:List Int):IntKind.u8.wrap (xs.length:Int)=((xs.length % 256:Nat):Int):=u8_nat _
def hd (n:Nat):List Int:=[((n / 256 % 256:Nat):Int),((n % 256:Nat):Int)]
def b4 (s:BitVec 32):List Int:=[(((s >>> 24).setWidth 8).toNat:Int),(((s >>> 16).setWidth 8).toNat:Int),(((s >>> 8).setWidth 8).toNat:Int),((s.setWidth 8).toNat:Int)]
def sm (r:List Int):BitVec 32:=crcS (hd r.length++r)
def put (r:List Int):List Int:=hd r.length++(b4 (sm r)++r)
theorem put_len (r:List Int):(put r).length=6+r.length:=by simp[put,hd,b4];omega
abbrev rB (xs:List Int):List (List V):=xs.map fun n=>[V.x (.int .u8 n)]
theorem sum1_c (b:List Int) (h:b.length<=4611686018427387904):ACall prog 153 [] [.e (.c (.v (.s 1 [[sB b]])))] (W32 (crcS b)) []:=by
 have:=sumOf_c [b] (by simp) (fun k=>by cases k with|zero=>exact h|succ k=>exact Nat.zero_le _);rw[show [b].flatten=b by simp]at this;exact this
theorem sum2_c (a b:List Int) (ha:a.length<=4611686018427387904) (h:b.length<=4611686018427387904):ACall prog 153 [] [.e (.c (.v (.s 1 [[sB a],[sB b]])))] (W32 (crcS (a++b))) []:=by
 have:=sumOf_c [a,b] (by simp) (fun k=>by cases k with|zero=>exact ha|succ k=>cases k with|zero=>exact h|succ k=>exact Nat.zero_le _);rw[show [a,b].flatten=a++b by simp]at this;exact this
theorem zDC73 {R G:Prop} (k:R) (h:Box R->G:=by
 intro k;simp (disch:=omega) only[↓reduceIte,Zx,Nat.reduceEqDiff,Nat.reduceAdd,if_true,if_false,reduceCtorEq,eq_self,Nat.reduceBEq,Nat.mul_one,Int.mul_one,nO_eq,oF_eq,Nat.reduceBEq,Bool.true_or,Bool.false_or,Bool.or_false,Z8,Zn,Int.reduceEq,decide_false,Bool.false_eq_true,false_implies,forall_const,Bool.not_true,Bool.not_false,BEq.rfl,bv_shr8,bv_shr16,bv_shr24,bv_low,len_hi,len_lo,Zi,List.take_length,List.map_append,tl3,tl5,tl24,tl246,tl157,tl38]
 all_goals exact k.out):G:=h ⟨k⟩
theorem zDC72 {R G:Prop} (k:R) (h:Box R->G:=by
 intro k;change Fin _ _ _ _ _ _;simp only[fe_all,id_eq,Nat.reduceLeDiff,↓reduceIte,Zx,Nat.reduceEqDiff,Nat.reduceAdd,if_true,if_false,reduceCtorEq,eq_self,Nat.reduceBEq,results98,tl3,tl5,tl24,tl246,tl157,tl38]
 all_goals exact k.out):G:=h ⟨k⟩
theorem zDC71 {R G:Prop} (k:R) (h:Box R->G:=by
 intro k
 repeat' (first|((fail_if_success clear hK);change AWp _ _ _ _ _ _;first|refine AWp.seq ?_|refine AWp.text (own:=nO) tG_ok (by kernel_rfl) (fun K hK=>?_)|refine AWp.draw (own:=nO) tG_ok mixed (by kernel_rfl) (by kernel_rfl) (fun K hK=>?_)|refine AWp.skip ?_|refine AWp.ret ?_|refine AWp.exit ?_|refine AWp.label ?_|refine AWp.block ?_)|(revert hK;intro hK;first|(with_reducible refine hK _ _ _ ?_;clear hK K)|(with_reducible refine hK _ _ _ ?_ ?_;(focus kernel_rfl);clear hK K)|((with_reducible change CallS _ _ _ _ _ _);(first|refine CallS.of (sum1_c b h) ?_|refine CallS.of (sum2_c (hd r.length) _ (by simp[hd]) (by omega)) ?_))|(with_reducible refine And.intro ?_ ?_)|(simp (disch:=omega) only[↓reduceIte,Zo,backT,pos,idsB,idsC,nodup,live,makeSliceE,viewE,viewFE,appendUE,appendFE,capFE,copyE,copySrc,clearE,guardB,isNilOp,nilS,withTy,splice,lenE,appendE,sliceE,boundE,indexAddrE,indexE,buildE,fillE,buildSliceE,partsE,builtinE,minE,minI,convE,convHE,appendNE,capE,D.x,id_eq,eq_self,if_true,if_false,ne_eq,implies_true,Nat.reduceAdd,Nat.reduceMul,Nat.reduceSub,Nat.reduceEqDiff,Nat.reduceLT,Nat.reduceLeDiff,reduceCtorEq,Nat.mul_one,Int.mul_one,nO_eq,oF_eq,Nat.reduceBEq,Bool.true_or,Bool.false_or,Bool.or_false,Z8,Zn,Int.reduceEq,decide_false,Bool.false_eq_true,false_implies,forall_const,Bool.not_true,Bool.not_false,BEq.rfl,bv_shr8,bv_shr16,bv_shr24,bv_low,len_hi,len_lo,Zi,List.take_length,List.map_append,true_and,tl3,tl5,tl24,tl246,tl157,tl38])|(first|omega|(intro hq;(try simp only[Zf,ne_eq,Bool.not_not,Bool.and_true]at hq);first|omega|assumption|(simp_all;done))|(simp_all;done))|(intro (bn:Bool) hbn)))
 all_goals exact k.out):G:=h ⟨k⟩
theorem put_c (r:List Int) (h1:1<=r.length) (h:r.length<=4096):ACall prog 98 [] [SB r] (.t [.c (.o 0 (put r).length),.c (.v (.x (.int .i64 0)))]) [.row 1 (rB (put r))]:=by
 refine Ac func98 ?_;refine zDC71 ?_;refine Cb ?_ ?_<;>intro hc<;>(try exact ⟨⟩)
 .omega
 .refine zDC71 ?_;refine zDC72 ?_;refine ⟨[3072],[(0,3072)],[],by kernel_rfl,?_,?_⟩
  ·(first|exact zDC73 trivial|refine zDC73 ?_)
   rfl
  ·(first|exact zDC73 trivial|refine zDC73 ?_)
   rw[put_len];rfl
abbrev u8 (n:Int):List V:=[V.x (.int .u8 n)]
end ND
namespace ND
theorem take_set (xs:List Int) (k:Nat) (v:Int):(xs.set k v).take xs.length=xs.set k v:=List.take_of_length_le (by simp)
end ND
namespace ND
def Byt (b:List Int):Prop:=∀j,0<=b.getD j 0/\b.getD j 0<=255
theorem cv32 (b:List Int) (j:Nat):IntKind.u32.wrap (b.getD j 0)=((BitVec.ofInt 32 (b.getD j 0)).toNat:Int):=by
 simp only[IntKind.wrap,IntKind.bits,IntKind.signed,BitVec.toNat_ofInt];simp;omega
theorem byt_drop {b:List Int} (h:Byt b) (p:Nat):Byt (b.drop p):=fun j=>by
 have:=h (p+j)
 rwa [List.getD_eq_getElem?_getD,List.getElem?_drop,<-List.getD_eq_getElem?_getD]
theorem byt_take {b:List Int} (h:Byt b) (p:Nat):Byt (b.take p):=fun j=>by
 have:=h j;rw[List.getD_eq_getElem?_getD,List.getElem?_take]
 split
 .rwa [<-List.getD_eq_getElem?_getD]
 .simp
theorem byt_nil:Byt []:=fun j=>by simp
theorem bv_eq (a b:BitVec 32):((a.toNat:Int) == (b.toNat:Int))=decide (a=b):=by
 rw[Bool.eq_iff_iff];simp only[beq_iff_eq,decide_eq_true_eq];rw[<-BitVec.toNat_inj];omega
end ND
namespace ND
def qDT11:=PLift.up (An @Zi @among2)
theorem has0_c (s0 t0 s1 t1:List Int):ACall prog 155 [] [diskD s0 t0 s1 t1,I 0] (B true) []:=by
 refine Ac func155 ?_;refine Wk qDT11.1 trivial ?_;refine Fn @results155 qDT11.1 ?_;try exact ⟨⟩
 rfl
theorem zDT11 {R G:Prop} (k:R) (h:Box R->G:=by
 intro k;simp (disch:=omega) only[↓reduceIte,Zo,backT,pos,idsB,idsC,nodup,live,makeSliceE,viewE,viewFE,appendUE,appendFE,capFE,copyE,copySrc,clearE,guardB,isNilOp,nilS,withTy,splice,lenE,appendE,sliceE,boundE,indexAddrE,indexE,buildE,fillE,buildSliceE,partsE,builtinE,minE,minI,convE,convHE,appendNE,capE,D.x,id_eq,eq_self,if_true,if_false,ne_eq,implies_true,Nat.reduceAdd,Nat.reduceMul,Nat.reduceSub,Nat.reduceEqDiff,Nat.reduceLT,Nat.reduceLeDiff,reduceCtorEq,Nat.mul_one,Int.mul_one,nO_eq,Int.reduceToNat,oF_eq,Nat.reduceBEq,Bool.true_or,Bool.false_or,Bool.or_false,Z8,Zn,Zi,among2,Int.reduceEq,decide_false,Bool.false_eq_true,false_implies,forall_const,Zp,forall_const,Nat.reduceBEq,Int.reduceEq,bne_self_eq_false,true_and,tyAll]
 all_goals exact k.out):G:=h ⟨k⟩
theorem clone_c (xs:List Int) (h:xs.length<=1000000):ACall prog 83 [] [SB xs] (SB xs) []:=by
 refine Ac func83 ?_
 repeat' (first|((fail_if_success clear hK);change AWp _ _ _ _ _ _;first|refine AWp.seq ?_|refine AWp.text (own:=nO) tG_ok (by kernel_rfl) (fun K hK=>?_)|refine AWp.draw (own:=nO) tG_ok mixed (by kernel_rfl) (by kernel_rfl) (fun K hK=>?_)|refine AWp.skip ?_|refine AWp.ret ?_|refine AWp.exit ?_|refine AWp.label ?_|refine AWp.block ?_)|(revert hK;intro hK;first|(with_reducible refine hK _ _ _ ?_;clear hK K)|(with_reducible refine hK _ _ _ ?_ ?_;(focus kernel_rfl);clear hK K)|((with_reducible change CallS _ _ _ _ _ _);(fail))|(with_reducible refine And.intro ?_ ?_)|((first|exact zDT11 trivial|refine zDT11 ?_))|(first|omega|(intro hq;(try simp only[Zf,ne_eq,Bool.not_not,Bool.and_true]at hq);first|omega|assumption|(simp_all;done))|(simp_all;done))|(intro (bn:Bool) hbn)))
 refine Cb ?_ ?_<;>intro hc<;>(try exact ⟨⟩)
 .repeat' (first|((fail_if_success clear hK);change AWp _ _ _ _ _ _;first|refine AWp.seq ?_|refine AWp.text (own:=nO) tG_ok (by kernel_rfl) (fun K hK=>?_)|refine AWp.draw (own:=nO) tG_ok mixed (by kernel_rfl) (by kernel_rfl) (fun K hK=>?_)|refine AWp.skip ?_|refine AWp.ret ?_|refine AWp.exit ?_|refine AWp.label ?_|refine AWp.block ?_)|(revert hK;intro hK;first|(with_reducible refine hK _ _ _ ?_;clear hK K)|(with_reducible refine hK _ _ _ ?_ ?_;(focus kernel_rfl);clear hK K)|((with_reducible change CallS _ _ _ _ _ _);(fail))|(with_reducible refine And.intro ?_ ?_)|((first|exact zDT11 trivial|refine zDT11 ?_))|(first|omega|(intro hq;(try simp only[Zf,ne_eq,Bool.not_not,Bool.and_true]at hq);first|omega|assumption|(simp_all;done))|(simp_all;done))|(intro (bn:Bool) hbn)))
  subst hc;have e:xs=[]:=by simpa using hbn rfl
  subst e;refine Fn @results83 qDT11.1 ?_;try exact ⟨⟩
 .repeat' (first|((fail_if_success clear hK);change AWp _ _ _ _ _ _;first|refine AWp.seq ?_|refine AWp.text (own:=nO) tG_ok (by kernel_rfl) (fun K hK=>?_)|refine AWp.draw (own:=nO) tG_ok mixed (by kernel_rfl) (by kernel_rfl) (fun K hK=>?_)|refine AWp.skip ?_|refine AWp.ret ?_|refine AWp.exit ?_|refine AWp.label ?_|refine AWp.block ?_)|(revert hK;intro hK;first|(with_reducible refine hK _ _ _ ?_;clear hK K)|(with_reducible refine hK _ _ _ ?_ ?_;(focus kernel_rfl);clear hK K)|((with_reducible change CallS _ _ _ _ _ _);(fail))|(with_reducible refine And.intro ?_ ?_)|((first|exact zDT11 trivial|refine zDT11 ?_))|(first|omega|(intro hq;(try simp only[Zf,ne_eq,Bool.not_not,Bool.and_true]at hq);first|omega|assumption|(simp_all;done))|(simp_all;done))|(intro (bn:Bool) hbn)))
  refine Fn @results83 qDT11.1 ?_;try exact ⟨⟩
end ND
namespace ND
abbrev NxD (r:List Int) (n e:Int):D:=.t [.c (.v (sB r)),.c (.v (.x (.int .i64 n))),.c (.v (.x (.int .i64 e)))]
def nextL (b:List Int):Int:=b.getD 0 0*256+b.getD 1 0
def nextR (b:List Int):List Int:=(b.take (6+nextL b).toNat).drop 6
theorem nextR_eq (b:List Int):(b.take (6+nextL b).toNat).drop 6=nextR b:=rfl
theorem take_u8 (b:List Int) (i:Nat):(b.map fun n=>[V.x (.int .u8 n)]).take i=(b.take i).map fun n=>[V.x (.int .u8 n)]:=List.map_take.symm
theorem drop_u8 (b:List Int) (i:Nat):(b.map fun n=>[V.x (.int .u8 n)]).drop i=(b.drop i).map fun n=>[V.x (.int .u8 n)]:=List.map_drop.symm
def asm4 (b:List Int):BitVec 32:=(BitVec.ofInt 32 (b.getD 2 0) <<< 24) ||| (BitVec.ofInt 32 (b.getD 3 0) <<< 16) ||| (BitVec.ofInt 32 (b.getD 4 0) <<< 8) ||| BitVec.ofInt 32 (b.getD 5 0)
theorem or_nat (x y:Nat) (hx:x<=255) (hy:y<=255):(x <<< 8) ||| y=x*256+y:=by
 rw[<-Nat.shiftLeft_add_eq_or_of_lt (by omega:y<2 ^ 8) x,Nat.shiftLeft_eq]
theorem or_len (b:List Int) (h0:0<=b.getD 0 0/\b.getD 0 0<=255) (h1:0<=b.getD 1 0/\b.getD 1 0<=255) :
 IntKind.i64.wrap ((BitVec.ofInt IntKind.i64.bits (IntKind.i64.wrap (b.getD 0 0*2 ^ min 8 IntKind.i64.bits)) ||| BitVec.ofInt IntKind.i64.bits (b.getD 1 0)).toNat:Int)=nextL b:=by
 unfold nextL;generalize b.getD 0 0=x at h0 ⊢;generalize b.getD 1 0=y at h1 ⊢;obtain ⟨x,rfl⟩:∃n:Nat,x=n:=⟨x.toNat,by omega⟩
 obtain ⟨y,rfl⟩:∃n:Nat,y=n:=⟨y.toNat,by omega⟩
 have e:(2:Int) ^ (min 8 IntKind.i64.bits)=256:=by decide
 rw[e,Zn ((x:Int)*256) (by omega) (by omega)]
 have a:(BitVec.ofInt IntKind.i64.bits ((x:Int)*256)).toNat=x*256:=by
  rw[show (x:Int)*256=((x*256:Nat):Int) by omega,BitVec.ofInt_natCast,BitVec.toNat_ofNat];exact Nat.mod_eq_of_lt (by show x*256<18446744073709551616;omega)
 have c:(BitVec.ofInt IntKind.i64.bits (y:Int)).toNat=y:=by
  rw[BitVec.ofInt_natCast,BitVec.toNat_ofNat];exact Nat.mod_eq_of_lt (by show y<18446744073709551616;omega)
 rw[BitVec.toNat_or,a,c];have:=or_nat x y (by omega) (by omega);rw[Nat.shiftLeft_eq,show (2:Nat) ^ 8=256 from rfl]at this;rw[this,Zn _ (by omega) (by omega)];omega
theorem bv_shl (k:Nat) (a:BitVec 32) (hk:k<=32):IntKind.u32.wrap ((a.toNat:Int)*2 ^ (min k IntKind.u32.bits))=((a <<< k).toNat:Int):=by
 rw[show min k IntKind.u32.bits=k from Nat.min_eq_left hk];simp only[IntKind.wrap,IntKind.bits,IntKind.signed,BitVec.toNat_shiftLeft,Nat.shiftLeft_eq];simp
theorem bv_shl24 (a:BitVec 32):IntKind.u32.wrap ((a.toNat:Int)*2 ^ (min 24 IntKind.u32.bits))=((a <<< 24).toNat:Int):=bv_shl 24 a (by omega)
theorem bv_shl16 (a:BitVec 32):IntKind.u32.wrap ((a.toNat:Int)*2 ^ (min 16 IntKind.u32.bits))=((a <<< 16).toNat:Int):=bv_shl 16 a (by omega)
theorem bv_shl8 (a:BitVec 32):IntKind.u32.wrap ((a.toNat:Int)*2 ^ (min 8 IntKind.u32.bits))=((a <<< 8).toNat:Int):=bv_shl 8 a (by omega)
theorem bv_or (a b:BitVec 32):IntKind.u32.wrap ((BitVec.ofInt IntKind.u32.bits (a.toNat:Int) ||| BitVec.ofInt IntKind.u32.bits (b.toNat:Int)).toNat:Int)=((a ||| b).toNat:Int):=by
 have e:BitVec.ofInt 32 (a.toNat:Int) ||| BitVec.ofInt 32 (b.toNat:Int)=a ||| b:=by rw[Yx,Yx]
 exact (congrArg (fun x:BitVec 32=>IntKind.u32.wrap ((x.toNat:Nat):Int)) e).trans (wrap_bv _)
theorem zDC83 {R G:Prop} (k:R) (h:Box R->G:=by
 intro k;simp (disch:=omega) only[↓reduceIte,Zx,Nat.reduceEqDiff,Nat.reduceAdd,if_true,if_false,reduceCtorEq,eq_self,Nat.reduceBEq,Nat.mul_one,Int.mul_one,nO_eq,oF_eq,Nat.reduceBEq,Bool.true_or,Bool.false_or,Bool.or_false,Z8,Int.reduceEq,decide_false,Bool.false_eq_true,false_implies,forall_const,Bool.not_true,Bool.not_false,BEq.rfl,Int.reduceToNat,getD_rB,take_u8,drop_u8,nextR_eq,List.take_length,or_len,cv32,bv_shl24,bv_shl16,bv_shl8,bv_or,bv_eq,Zn,tl3,tl5,tl24,tl246,tl157,tl38]
 all_goals exact k.out):G:=h ⟨k⟩
theorem zDC82 {R G:Prop} (k:R) (h:Box R->G:=by
 intro k;change Fin _ _ _ _ _ _;simp only[fe_all,id_eq,Nat.reduceLeDiff,↓reduceIte,Zx,Nat.reduceEqDiff,Nat.reduceAdd,if_true,if_false,reduceCtorEq,eq_self,Nat.reduceBEq,results243,tl3,tl5,tl24,tl246,tl157,tl38]
 all_goals exact k.out):G:=h ⟨k⟩
theorem zDC81 {R G:Prop} (k:R) (h:Box R->G:=by
 intro k
 repeat' (first|((fail_if_success clear hK);change AWp _ _ _ _ _ _;first|refine AWp.seq ?_|refine AWp.text (own:=nO) tG_ok (by kernel_rfl) (fun K hK=>?_)|refine AWp.draw (own:=nO) tG_ok mixed (by kernel_rfl) (by kernel_rfl) (fun K hK=>?_)|refine AWp.skip ?_|refine AWp.ret ?_|refine AWp.exit ?_|refine AWp.label ?_|refine AWp.block ?_)|(revert hK;intro hK;first|(with_reducible refine hK _ _ _ ?_;clear hK K)|(with_reducible refine hK _ _ _ ?_ ?_;(focus kernel_rfl);clear hK K)|((with_reducible change CallS _ _ _ _ _ _);(first|refine CallS.of (sum2_c (b.take 2) (nextR b) (by simp only[List.length_take];omega) (by simp only[nextR,List.length_take,List.length_drop];omega)) ?_|refine CallS.of (clone_c (nextR b) (by simp only[nextR,List.length_take,List.length_drop];omega)) ?_))|(with_reducible refine And.intro ?_ ?_)|(simp (disch:=omega) only[↓reduceIte,Zo,backT,pos,idsB,idsC,nodup,live,makeSliceE,viewE,viewFE,appendUE,appendFE,capFE,copyE,copySrc,clearE,guardB,isNilOp,nilS,withTy,splice,lenE,appendE,sliceE,boundE,indexAddrE,indexE,buildE,fillE,buildSliceE,partsE,builtinE,minE,minI,convE,convHE,appendNE,capE,D.x,id_eq,eq_self,if_true,if_false,ne_eq,implies_true,Nat.reduceAdd,Nat.reduceMul,Nat.reduceSub,Nat.reduceEqDiff,Nat.reduceLT,Nat.reduceLeDiff,reduceCtorEq,Nat.mul_one,Int.mul_one,nO_eq,oF_eq,Nat.reduceBEq,Bool.true_or,Bool.false_or,Bool.or_false,Z8,Int.reduceEq,decide_false,Bool.false_eq_true,false_implies,forall_const,Bool.not_true,Bool.not_false,BEq.rfl,Int.reduceToNat,getD_rB,take_u8,drop_u8,nextR_eq,List.take_length,or_len,cv32,bv_shl24,bv_shl16,bv_shl8,bv_or,bv_eq,Zn,true_and,tl3,tl5,tl24,tl246,tl157,tl38])|(first|omega|(intro hq;(try simp only[Zf,ne_eq,Bool.not_not,Bool.and_true]at hq);first|omega|assumption|(simp_all;done))|(simp_all;done))|(intro (bn:Bool) hbn)))
 all_goals exact k.out):G:=h ⟨k⟩
theorem nextShort_c (b:List Int) (h:b.length<6):ACall prog 243 [] [SB b] (NxD [] 0 2) []:=by
 refine Ac func243 ?_;refine zDC81 ?_;refine Cb ?_ ?_<;>intro hc<;>(try exact ⟨⟩)
 .refine zDC81 ?_;refine zDC82 ?_;refine ⟨[],[],[],by kernel_rfl,?_,?_⟩<;>((first|exact zDC83 trivial|refine zDC83 ?_);try omega)
 .omega
theorem nextForm_c (b:List Int) (hb:Byt b) (h:6<=b.length) (hn:nextL b<1\/4096<nextL b):ACall prog 243 [] [SB b] (NxD [] 0 3) []:=by
 refine Ac func243 ?_;refine zDC81 ?_;refine Cb ?_ ?_<;>intro hc<;>(try exact ⟨⟩)
 .omega
 .have h0:=hb 0;have h1:=hb 1;refine zDC81 ?_;refine Cb ?_ ?_<;>intro hc<;>(try exact ⟨⟩)
  .refine zDC81 ?_;refine zDC82 ?_;refine ⟨[],[],[],by kernel_rfl,?_,?_⟩<;>((first|exact zDC83 trivial|refine zDC83 ?_);try omega)
  .omega
theorem nextShort2_c (b:List Int) (hb:Byt b) (h:6<=b.length) (hn:1<=nextL b) (hm:nextL b<=4096) (hl:b.length<6+nextL b):ACall prog 243 [] [SB b] (NxD [] 0 2) []:=by
 refine Ac func243 ?_;refine zDC81 ?_;refine Cb ?_ ?_<;>intro hc<;>(try exact ⟨⟩)
 .omega
 .have h0:=hb 0;have h1:=hb 1;refine zDC81 ?_;refine Cb ?_ ?_<;>intro hc<;>(try exact ⟨⟩)
  .omega
  .refine zDC81 ?_;refine Cb ?_ ?_<;>intro hc<;>(try exact ⟨⟩)
   .refine zDC81 ?_;refine zDC82 ?_;refine ⟨[],[],[],by kernel_rfl,?_,?_⟩<;>((first|exact zDC83 trivial|refine zDC83 ?_);try omega)
   .omega
theorem nextOk_c (b:List Int) (hb:Byt b) (h:6<=b.length) (hn:1<=nextL b) (hm:nextL b<=4096) (hl:6+nextL b<=b.length) (hs:crcS (b.take 2++nextR b)=asm4 b) (hlen:b.length<=4611686018427387904):ACall prog 243 [] [SB b] (NxD (nextR b) (6+nextL b) 0) []:=by
 refine Ac func243 ?_;refine zDC81 ?_;refine Cb ?_ ?_<;>intro hc<;>(try exact ⟨⟩)
 .omega
 .have h0:=hb 0;have h1:=hb 1;refine zDC81 ?_;refine Cb ?_ ?_<;>intro hc<;>(try exact ⟨⟩)
  .omega
  .refine zDC81 ?_;refine Cb ?_ ?_<;>intro hc<;>(try exact ⟨⟩)
   .omega
   .refine zDC81 ?_;refine Cb ?_ ?_<;>intro hc<;>(try exact ⟨⟩)
    .exact absurd (congrArg (fun x:BitVec 32=>((x.toNat:Nat):Int)) hs) hc
    .refine zDC81 ?_;refine zDC82 ?_;refine ⟨[],[],[],by kernel_rfl,?_,?_⟩<;>((first|exact zDC83 trivial|refine zDC83 ?_);try omega)
theorem nextSum_c (b:List Int) (hb:Byt b) (h:6<=b.length) (hn:1<=nextL b) (hm:nextL b<=4096) (hl:6+nextL b<=b.length) (hs:¬crcS (b.take 2++nextR b)=asm4 b) (hlen:b.length<=4611686018427387904):ACall prog 243 [] [SB b] (NxD [] 0 11) []:=by
 refine Ac func243 ?_;refine zDC81 ?_;refine Cb ?_ ?_<;>intro hc<;>(try exact ⟨⟩)
 .omega
 .have h0:=hb 0;have h1:=hb 1;refine zDC81 ?_;refine Cb ?_ ?_<;>intro hc<;>(try exact ⟨⟩)
  .omega
  .refine zDC81 ?_;refine Cb ?_ ?_<;>intro hc<;>(try exact ⟨⟩)
   .omega
   .refine zDC81 ?_;refine Cb ?_ ?_<;>intro hc<;>(try exact ⟨⟩)
    .refine zDC81 ?_;refine zDC82 ?_;refine ⟨[],[],[],by kernel_rfl,?_,?_⟩<;>((first|exact zDC83 trivial|refine zDC83 ?_);try omega)
    .exact absurd (BitVec.eq_of_toNat_eq (Int.ofNat.inj hc)) hs
def next (b:List Int):List Int×Int×Int :=
 if b.length<6 then ([],0,2) else
 if nextL b<1\/4096<nextL b then ([],0,3) else
 if b.length<6+nextL b then ([],0,2) else
 if crcS (b.take 2++nextR b)=asm4 b then (nextR b,6+nextL b,0) else ([],0,11)
theorem next_c (b r:List Int) (n e:Int) (h:next b=(r,n,e)) (hb:Byt b) (hlen:b.length<=4611686018427387904):ACall prog 243 [] [SB b] (NxD r n e) []:=by
 unfold next at h
 by_cases h1:b.length<6
 .rw[if_pos h1]at h;cases h;exact nextShort_c b h1
 rw[if_neg h1]at h;by_cases h2:nextL b<1\/4096<nextL b
 .rw[if_pos h2]at h;cases h;exact nextForm_c b hb (by omega) h2
 rw[if_neg h2]at h;by_cases h3:b.length<6+nextL b
 .rw[if_pos h3]at h;cases h;exact nextShort2_c b hb (by omega) (by omega) (by omega) h3
 rw[if_neg h3]at h;by_cases h4:crcS (b.take 2++nextR b)=asm4 b
 .rw[if_pos h4]at h;cases h;exact nextOk_c b hb (by omega) (by omega) (by omega) (by omega) h4 hlen
 .rw[if_neg h4]at h;cases h;exact nextSum_c b hb (by omega) (by omega) (by omega) (by omega) h4 hlen
end ND
namespace ND
theorem next_pos (b:List Int) (r:List Int) (n e:Int) (h:next b=(r,n,e)):(e=0->1<=n - 6/\n<=b.length/\n<=4102)/\0<=n/\(e=0\/e=2\/e=3\/e=11):=by
 unfold next at h
 repeat' split at h
 all_goals (cases h;refine ⟨?_,?_,?_⟩<;>omega)
def all (b:List Int):List (List Int)×Nat :=
 if _h:(next b).2.2=0 then
  ((next b).1::(all (b.drop (next b).2.1.toNat)).1,(next b).2.1.toNat+(all (b.drop (next b).2.1.toNat)).2)
 else ([],0)
termination_by b.length
decreasing_by
 all_goals
  have h:=next_pos b (next b).1 (next b).2.1 (next b).2.2 rfl;have:=h.1 _h;rw[List.length_drop];omega
theorem all_ok {b r:List Int} {n:Int} (h:next b=(r,n,0)):all b=(r::(all (b.drop n.toNat)).1,n.toNat+(all (b.drop n.toNat)).2):=by
 rw[all];simp only[h,dite_true]
theorem all_no {b r:List Int} {n e:Int} (h:next b=(r,n,e)) (he:e≠0):all b=([],0):=by
 rw[all];simp only[h,he,dite_false]
abbrev rSS (xss:List (List Int)):List (List V):=xss.map fun x=>[sB x]
theorem zDC92 {R G:Prop} (k:R) (h:Box R->G:=by
 intro k;simp (disch:=omega) only[↓reduceIte,Zx,Nat.reduceEqDiff,Nat.reduceAdd,if_true,if_false,reduceCtorEq,eq_self,Nat.reduceBEq,Nat.mul_one,Int.mul_one,nO_eq,oF_eq,Nat.reduceBEq,Bool.true_or,Bool.false_or,Bool.or_false,Z8,Int.reduceEq,decide_false,Bool.false_eq_true,false_implies,forall_const,Bool.not_true,Bool.not_false,BEq.rfl,Int.reduceToNat,getD_rB,take_u8,drop_u8,Zi,List.take_length,List.map_append,Zn,List.length_append,List.length_singleton,strRows_map,areBytes_map,getD_mapD,bne_self_eq_false,tl3,tl4,tl5,tl9,tl24,tl246,tl157,tl38]
 all_goals exact k.out):G:=h ⟨k⟩
theorem zDC91 {R G:Prop} (k:R) (h:Box R->G:=by
 intro k
 repeat' (first|((fail_if_success clear hK);change AWp _ _ _ _ _ _;first|refine AWp.seq ?_|refine AWp.text (own:=nO) tG_ok (by kernel_rfl) (fun K hK=>?_)|refine AWp.draw (own:=nO) tG_ok mixed (by kernel_rfl) (by kernel_rfl) (fun K hK=>?_)|refine AWp.skip ?_|refine AWp.ret ?_|refine AWp.exit ?_|refine AWp.label ?_|refine AWp.block ?_)|(revert hK;intro hK;first|(with_reducible refine hK _ _ _ ?_;clear hK K)|(with_reducible refine hK _ _ _ ?_ ?_;(focus kernel_rfl);clear hK K)|((with_reducible change CallS _ _ _ _ _ _);(first|refine CallS.of (next_c _ _ _ _ hnx (byt_drop hb p) (by rw[List.length_drop];omega)) ?_))|(with_reducible refine And.intro ?_ ?_)|(simp (disch:=omega) only[↓reduceIte,Zo,backT,pos,idsB,idsC,nodup,live,makeSliceE,viewE,viewFE,appendUE,appendFE,capFE,copyE,copySrc,clearE,guardB,isNilOp,nilS,withTy,splice,lenE,appendE,sliceE,boundE,indexAddrE,indexE,buildE,fillE,buildSliceE,partsE,builtinE,minE,minI,convE,convHE,appendNE,capE,D.x,id_eq,eq_self,if_true,if_false,ne_eq,implies_true,Nat.reduceAdd,Nat.reduceMul,Nat.reduceSub,Nat.reduceEqDiff,Nat.reduceLT,Nat.reduceLeDiff,reduceCtorEq,Nat.mul_one,Int.mul_one,nO_eq,oF_eq,Nat.reduceBEq,Bool.true_or,Bool.false_or,Bool.or_false,Z8,Int.reduceEq,decide_false,Bool.false_eq_true,false_implies,forall_const,Bool.not_true,Bool.not_false,BEq.rfl,Int.reduceToNat,getD_rB,take_u8,drop_u8,Zi,List.take_length,List.map_append,Zn,List.length_append,List.length_singleton,strRows_map,areBytes_map,getD_mapD,bne_self_eq_false,true_and,tl3,tl4,tl5,tl9,tl24,tl246,tl157,tl38])|(first|omega|(intro hq;(try simp only[Zf,ne_eq,Bool.not_not,Bool.and_true]at hq);first|omega|assumption|(simp_all;done))|(simp_all;done))|(intro (bn:Bool) hbn)))
 all_goals exact k.out):G:=h ⟨k⟩
theorem all_c (b:List Int) (hb:Byt b) (hlen:b.length<=1000000):ACall prog 192 [] [SB b] (.t [.c (.v (.s 1 (rSS (all b).1))),.c (.v (.x (.int .i64 (all b).2)))]) []:=by
 refine Ac func192 ?_;refine zDC91 ?_
 refine AWp.loop (fun s:Nat×List (List Int)=>mkSt [(0,SB b),(4,.e (.c (.o 0 s.2.length))),(5,I s.1)] [(0,.row 1 (rSS s.2))] 1)
  (fun s=>s.1<=b.length/\s.2.length<=s.1/\s.2++(all (b.drop s.1)).1=(all b).1/\s.1+(all (b.drop s.1)).2=(all b).2) (fun s=>b.length - s.1) (0,[]) ⟨Nat.zero_le _,Nat.zero_le _,rfl,Nat.zero_add _⟩ (by refine Le.of (τ:=[]) (ν:=[0]) (by kernel_rfl) ?_ ?_<;>((first|exact zDC92 trivial|refine zDC92 ?_);try rfl)) fun s hs=>?_
 obtain ⟨p,rs⟩:=s;obtain ⟨hp,hrl,hr,hn⟩:=hs;dsimp only at hp hrl hr hn ⊢;obtain ⟨⟨r,n,e⟩,hnx⟩:∃q,next (b.drop p)=q:=⟨_,rfl⟩
 have hq:=next_pos _ _ _ _ hnx;rw[List.length_drop]at hq;refine zDC91 ?_;refine Cb ?_ ?_<;>intro hc<;>(try exact ⟨⟩)
 .have he:e≠0:=by intro h0;have:=hq.1 h0;omega
  rw[all_no hnx he,List.append_nil]at hr;rw[all_no hnx he]at hn;refine zDC91 ?_;change Fin _ _ _ _ _ _;simp only[fe_all,id_eq,Nat.reduceLeDiff,↓reduceIte,Zx,Nat.reduceEqDiff,Nat.reduceAdd,if_true,if_false,reduceCtorEq,eq_self,Nat.reduceBEq,results192,tl3,tl4,tl5,tl9,tl24,tl246,tl157,tl38];refine ⟨[],[],[],by kernel_rfl,?_,?_⟩<;>((first|exact zDC92 trivial|refine zDC92 ?_);try omega)
  rw[hr];exact ⟨rfl,by dsimp only at hn;omega⟩
 .have he:e=0:=by omega
  subst he;have hq1:=hq.1 rfl;rw[all_ok hnx,List.drop_drop]at hr hn;refine zDC91 ?_;refine Za (τ:=ren [(0,1281)]) (ν:=[]) (p+n.toNat,rs++[r]) ⟨by dsimp only;omega,by simp;omega,by dsimp only;rw[List.append_assoc];exact hr,by dsimp only at hn ⊢;omega⟩ (by dsimp only;omega) ?_;refine Le.of (by kernel_rfl) ?_ ?_<;>((first|exact zDC92 trivial|refine zDC92 ?_);try omega)
end ND
namespace ND
def genL (xs:List Int):Int:=xs.foldl (fun g c=>g*256+c) 0
theorem genL_succ (xs:List Int) (i:Nat) (h:i<xs.length):genL (xs.take (i+1))=genL (xs.take i)*256+xs.getD i 0:=by
 rw[genL,genL,List.take_add_one,List.foldl_append,List.getD_eq_getElem?_getD,List.getElem?_eq_getElem h];rfl
theorem genL_rng (xs:List Int) (hb:Byt xs) (i:Nat) (h:i<=xs.length):0<=genL (xs.take i)/\genL (xs.take i)<256 ^ i:=by
 induction i with
 | zero=>simp[genL]
 | succ i ih =>
  have:=ih (by omega);have hx:=hb i;rw[genL_succ xs i (by omega),Int.pow_succ];omega
theorem or_nat2 (x y:Nat) (hy:y<=255):(x <<< 8) ||| y=x*256+y:=by
 rw[<-Nat.shiftLeft_add_eq_or_of_lt (by omega:y<2 ^ 8) x,Nat.shiftLeft_eq]
theorem or8_u64 (x y:Int) (h0:0<=x) (h1:x<72057594037927936) (hy:0<=y/\y<=255) :
 IntKind.u64.wrap ((BitVec.ofInt IntKind.u64.bits (IntKind.u64.wrap (x*2 ^ min 8 IntKind.u64.bits)) ||| BitVec.ofInt IntKind.u64.bits y).toNat:Int)=x*256+y:=by
 obtain ⟨x,rfl⟩:∃n:Nat,x=n:=⟨x.toNat,by omega⟩
 obtain ⟨y,rfl⟩:∃n:Nat,y=n:=⟨y.toNat,by omega⟩
 have e:(2:Int) ^ (min 8 IntKind.u64.bits)=256:=by decide
 rw[e,wrap_u64 ((x:Int)*256) (by omega) (by omega)]
 have a:(BitVec.ofInt IntKind.u64.bits ((x:Int)*256)).toNat=x*256:=by
  rw[show (x:Int)*256=((x*256:Nat):Int) by omega,BitVec.ofInt_natCast,BitVec.toNat_ofNat];exact Nat.mod_eq_of_lt (by show x*256<18446744073709551616;omega)
 have c:(BitVec.ofInt IntKind.u64.bits (y:Int)).toNat=y:=by
  rw[BitVec.ofInt_natCast,BitVec.toNat_ofNat];exact Nat.mod_eq_of_lt (by show y<18446744073709551616;omega)
 rw[BitVec.toNat_or,a,c];have:=or_nat2 x y (by omega);rw[Nat.shiftLeft_eq,show (2:Nat) ^ 8=256 from rfl]at this;rw[this,wrap_u64 _ (by omega) (by omega)];omega
theorem gen_or (xs:List Int) (i:Nat) (h:i<xs.length) (h8:xs.length<=8) (hb:Byt xs) :
 IntKind.u64.wrap ((BitVec.ofInt IntKind.u64.bits (IntKind.u64.wrap (genL (xs.take i)*2 ^ min 8 IntKind.u64.bits)) ||| BitVec.ofInt IntKind.u64.bits (xs.getD i 0)).toNat:Int)=genL (xs.take (i+1)):=by
 have:=genL_rng xs hb i (by omega)
 have hp:(256:Int) ^ i<=256 ^ 7:=by
  have:(256:Nat) ^ i<=256 ^ 7:=Nat.pow_le_pow_right (by omega) (by omega)
  exact_mod_cast this
 have hp:(256:Int) ^ i<=72057594037927936:=hp;rw[or8_u64 _ _ this.1 (by omega) (hb i),genL_succ xs i h]
def g8 (f:List Int):List Int:=(f.take 9).drop 1
theorem g8F (f:List Int):(f.take 9).drop 1=g8 f:=rfl
theorem g8_len (f:List Int) (h:9<=f.length):(g8 f).length=8:=by rw[g8,List.length_drop,List.length_take];omega
def goodF (f:List Int):Prop:=9<=f.length/\f.getD 0 0=71/\1<=genL (g8 f)/\genL (g8 f)<=4611686018427387904
abbrev cZ:List C:=[.v (vI 0),.v (.x (.slice none 0 0)),.v (.x (.slice none 0 0)),.v (vI 0)]
def qDJ11:=PLift.up (An @getD_rB (An @take_u8 (An @drop_u8 (An @List.getD_nil.{0} (An @g8F (An @wrap_u64 (An @List.length_append.{0} @List.length_singleton.{0})))))))
theorem lookNone0_c (b:List Int) (hb:Byt b) (hlen:b.length<=1000000) (h:(all b).1=[]):ACall prog 136 [] [SB b] (.t [.a cZ,.c (.v (.x (.bool false)))]) []:=by
 have hl8:True:=trivial;have hgen:True:=trivial;have hall:=all_c b hb hlen;rw[h]at hall;refine Ac func136 ?_;refine Wk (An @hgen (An @hl8 qDJ11.1)) @hall ?_;refine Cb ?_ ?_<;>intro hc<;>(try exact ⟨⟩)
 .refine Wk (An @hgen (An @hl8 qDJ11.1)) @hall ?_;refine Fn @results136 (An @hgen (An @hl8 qDJ11.1)) ?_;try exact ⟨⟩
 .contradiction
theorem lookNone1_c (b f:List Int) (rest:List (List Int)) (hb:Byt b) (hlen:b.length<=1000000) (h:(all b).1=f::rest) (hf:¬(9<=f.length/\f.getD 0 0=71)):ACall prog 136 [] [SB b] (.t [.a cZ,.c (.v (.x (.bool false)))]) []:=by
 have hl8:True:=trivial;have hgen:True:=trivial;have hall:=all_c b hb hlen;rw[h]at hall;refine Ac func136 ?_;refine Wk (An @hgen (An @hl8 qDJ11.1)) @hall ?_;refine Cb ?_ ?_<;>intro hc<;>(try exact ⟨⟩)
 .refine Wk (An @hgen (An @hl8 qDJ11.1)) @hall ?_;refine Fn @results136 (An @hgen (An @hl8 qDJ11.1)) ?_;try exact ⟨⟩
 .omega
abbrev u64C (n:Int):D:=.e (.c (.v (.x (.int .u64 n))))
abbrev lkSt (f:List Int) (rest:List (List Int)) (long:Nat) (i:Nat):St :=
 mkSt [(2,.p 0 0),(4,.e (.c (.v (.s 1 (rSS (f::rest)))))),(5,I long),(6,SB f),(7,u64C (genL ((g8 f).take i))),(38,SB (g8 f)),(39,I 8),(40,I i)] [(0,.loc cZ)] 1
theorem lookBad_c (b f:List Int) (rest:List (List Int)) (hb:Byt b) (hf:Byt f) (hlen:b.length<=1000000) (h:(all b).1=f::rest) (h9:9<=f.length) (h71:f.getD 0 0=71) (hg:genL (g8 f)<1\/4611686018427387904<genL (g8 f)):ACall prog 136 [] [SB b] (.t [.a cZ,.c (.v (.x (.bool false)))]) []:=by
 have hgen:True:=trivial;have hall:=all_c b hb hlen;rw[h]at hall;have hl8:=g8_len f h9;have hB8:Byt (g8 f):=byt_drop (byt_take hf 9) 1;refine Ac func136 ?_;refine Wk (An @hgen (An @hl8 qDJ11.1)) @hall ?_;refine Cb ?_ ?_<;>intro hc<;>(try exact ⟨⟩)
 .omega
 .refine Wk (An @hgen (An @hl8 qDJ11.1)) @hall ?_;refine AWp.loop (lkSt f rest (all b).2) (fun i=>i<=8) (fun i=>8 - i) 0 (Nat.zero_le _) (by refine Le.of (τ:=[]) (ν:=[]) (by kernel_rfl) ?_ ?_<;>((refine Lw (An @hgen (An @hl8 qDJ11.1)) ?_;try exact ⟨⟩);try rfl)) fun i hi=>?_;refine Wk (An @hgen (An @hl8 qDJ11.1)) @hall ?_;refine Cb ?_ ?_<;>intro hc<;>(try exact ⟨⟩)
  .have hbi:=hB8 i;have hgen:=gen_or (g8 f) i (by omega) (by omega) hB8;refine Wk (An @hgen (An @hl8 qDJ11.1)) @hall ?_;refine Za (i+1) (by omega) (by omega) (by refine Le.of (τ:=[]) (ν:=[]) (by kernel_rfl) ?_ ?_<;>((refine Lw (An @hgen (An @hl8 qDJ11.1)) ?_;try exact ⟨⟩);try omega))
  .obtain rfl:i=8:=by omega
   have ht:(g8 f).take 8=g8 f:=List.take_of_length_le (by omega);rw[ht];refine Wk (An @hgen (An @hl8 qDJ11.1)) @hall ?_;refine Cb ?_ ?_<;>intro hc<;>(try exact ⟨⟩)
   .refine Wk (An @hgen (An @hl8 qDJ11.1)) @hall ?_;refine Fn @results136 (An @hgen (An @hl8 qDJ11.1)) ?_;try exact ⟨⟩
   .omega
end ND
namespace ND
theorem getD_set_ne (b:List Int) (k j:Nat) (v:Int) (h:k≠j):(b.set k v).getD j 0=b.getD j 0:=by
 rw[List.getD_eq_getElem?_getD,List.getElem?_set_ne h,<-List.getD_eq_getElem?_getD]
end ND
namespace ND
abbrev arrD (s0 t0 s1 t1:List Int):List C:=[.v (sB s0),.v (sB t0),.v (sB s1),.v (sB t1)]
def okD (s0 t0 s1 t1:List Int):Prop:=s0.length+t0.length<=65536/\s1.length+t1.length<=65536
def qDT21:=PLift.up (An @Zi @among2)
theorem right_c (s0 t0 s1 t1:List Int) (h:okD s0 t0 s1 t1):ACall prog 135 [] [diskD s0 t0 s1 t1] (B true) []:=by
 have hd1:=h.1;have hd2:=h.2;obtain ⟨h0,h1⟩:=h;refine Ac func135 ?_;refine Wk qDT21.1 trivial ?_
 refine AWp.loop (fun k:Int=>mkSt [(1,.p 0 0),(6,.e (.a (arrD s0 t0 s1 t1))),(7,I k)] [(0,.loc (arrD s0 t0 s1 t1))] 1)
  (fun k=>k=0\/k=1\/k=2) (fun k=>(2 - k).toNat) 0 (.inl rfl) (by refine Le.of (τ:=[]) (ν:=[]) (by kernel_rfl) ?_ ?_<;>((refine Lw qDT21.1 ?_;try exact ⟨⟩);try omega)) fun k hk=>?_
 rcases hk with rfl|rfl|rfl
 .refine Wk qDT21.1 trivial ?_;refine Cb ?_ ?_<;>intro hc<;>(try exact ⟨⟩)
  .refine Wk qDT21.1 trivial ?_;refine Cb ?_ ?_<;>intro hc<;>(try exact ⟨⟩)
   .omega
   .refine Wk qDT21.1 trivial ?_;refine Za 1 (.inr (.inl rfl)) (by omega) (by refine Le.of (τ:=[]) (ν:=[]) (by kernel_rfl) ?_ ?_<;>((refine Lw qDT21.1 ?_;try exact ⟨⟩);try omega))
  .omega
 .refine Wk qDT21.1 trivial ?_;refine Cb ?_ ?_<;>intro hc<;>(try exact ⟨⟩)
  .refine Wk qDT21.1 trivial ?_;refine Cb ?_ ?_<;>intro hc<;>(try exact ⟨⟩)
   .omega
   .refine Wk qDT21.1 trivial ?_;refine Za 2 (.inr (.inr rfl)) (by omega) (by refine Le.of (τ:=[]) (ν:=[]) (by kernel_rfl) ?_ ?_<;>((refine Lw qDT21.1 ?_;try exact ⟨⟩);try omega))
  .omega
 .refine Wk qDT21.1 trivial ?_;refine Cb ?_ ?_<;>intro hc<;>(try exact ⟨⟩)
  .omega
  .refine Wk qDT21.1 trivial ?_;refine Fn @results135 qDT21.1 ?_;try exact ⟨⟩
abbrev nilC:C:=.v (.x (.slice none 0 0))
theorem own_c (s0 t0 s1 t1:List Int) (h0:s0.length<=65536) (h1:t0.length<=65536) (h2:s1.length<=65536) (h3:t1.length<=65536):ACall prog 154 [] [diskD s0 t0 s1 t1] (diskD s0 t0 s1 t1) []:=by
 refine Ac func154 ?_;refine Wk qDT21.1 @clone_c ?_
 refine AWp.loop (τ:=ren [(1,64)]) (fun k:Int=>mkSt [(1,.p 0 0),(2,.p 1 0),(6,.e (.a (arrD s0 t0 s1 t1))),(7,I k)] [(0,.loc (arrD s0 t0 s1 t1)),(1,.loc [nilC,nilC,nilC,nilC])] 2)
  (fun k=>k=0\/k=1\/k=2) (fun k=>(2 - k).toNat) 0 (.inl rfl) (by refine Le.of (ν:=[]) (by kernel_rfl) ?_ ?_<;>(refine Lw qDT21.1 ?_;try exact ⟨⟩)) fun k hk=>?_
 rcases hk with rfl|rfl|rfl
 .refine Wk qDT21.1 @clone_c ?_;refine Cb ?_ ?_<;>intro hc<;>(try exact ⟨⟩)
  .refine Wk qDT21.1 @clone_c ?_;refine Za 1 (.inr (.inl rfl)) (by omega) (by refine Le.of (τ:=[]) (ν:=[]) (by kernel_rfl) ?_ ?_<;>((refine Lw qDT21.1 ?_;try exact ⟨⟩);try omega))
  .omega
 .refine Wk qDT21.1 @clone_c ?_;refine Cb ?_ ?_<;>intro hc<;>(try exact ⟨⟩)
  .refine Wk qDT21.1 @clone_c ?_;refine Za 2 (.inr (.inr rfl)) (by omega) (by refine Le.of (τ:=[]) (ν:=[]) (by kernel_rfl) ?_ ?_<;>((refine Lw qDT21.1 ?_;try exact ⟨⟩);try omega))
  .omega
 .refine Wk qDT21.1 @clone_c ?_;refine Cb ?_ ?_<;>intro hc<;>(try exact ⟨⟩)
  .omega
  .refine Wk qDT21.1 @clone_c ?_;refine Fn @results154 qDT21.1 ?_;try exact ⟨⟩
end ND
namespace ND
abbrev nilD:D:=.e (.c (.v (.x (.slice none 0 0))))
def qDT31:=PLift.up (An @Zi (An @among2 (An @getD_mapD (An @tot_zero (An @Int.sub_zero (An @Int.sub_self @List.length_replicate.{0}))))))
theorem grow_c (n:Nat) (h:n<=1000000):ACall prog 206 [] [nilD,I n] (.e (.c (.o 0 0))) [.row 1 (List.replicate n [V.x (.int .u8 0)])]:=by
 refine Ac func206 ?_;refine Wk qDT31.1 trivial ?_;refine Cb ?_ ?_<;>intro hc<;>(try exact ⟨⟩)
 .omega
 .refine Wk qDT31.1 trivial ?_;refine Cb ?_ ?_<;>intro hc<;>(try exact ⟨⟩)
  .refine Wk qDT31.1 trivial ?_;refine Fs @results206 ?_;refine ⟨[1152],[(0,1152)],[],by kernel_rfl,?_,?_⟩<;>((refine Lw qDT31.1 ?_;try exact ⟨⟩);try omega)
  .refine Wk qDT31.1 trivial ?_;have e:n=0:=by omega
   subst e;refine Fs @results206 ?_;refine ⟨[],[],[0],by kernel_rfl,?_,?_⟩<;>((refine Lw qDT31.1 ?_;try exact ⟨⟩);try rfl)
theorem concat_c (xss:List (List Int)) (h:xss.flatten.length<=1000000) (hl:xss.length<=1000):ACall prog 156 [] [SS xss] (SB xss.flatten) []:=by
 refine Ac func156 ?_;refine Wk qDT31.1 trivial ?_;refine AWp.loop (fun k:Nat=>mkSt [(0,SS xss),(3,I (tot xss k)),(9,SS xss),(10,I xss.length),(11,I k)] [] 0) (fun k=>k<=xss.length) (fun k=>xss.length - k) 0 (Nat.zero_le _) (by refine Le.of (τ:=[]) (ν:=[]) (by kernel_rfl) ?_ ?_<;>((refine Lw qDT31.1 ?_;try exact ⟨⟩);try rfl)) fun k hk=>?_;have ha:=tot_all xss;refine Wk qDT31.1 (grow_c (tot xss xss.length)) ?_;refine Cb ?_ ?_<;>intro hc<;>(try exact ⟨⟩)
 .have ht:=tot_succ xss k (by omega);have hle:=tot_le xss (k+1);refine Wk qDT31.1 (grow_c (tot xss xss.length)) ?_;refine Cb ?_ ?_<;>intro hc<;>(try exact ⟨⟩)
  .omega
  .refine Wk qDT31.1 (grow_c (tot xss xss.length)) ?_;refine Za (k+1) (by omega) (by omega) (by refine Le.of (τ:=[]) (ν:=[]) (by kernel_rfl) ?_ ?_<;>((refine Lw qDT31.1 ?_;try exact ⟨⟩);try omega))
 .obtain rfl:k=xss.length:=by omega
  refine Wk qDT31.1 (grow_c (tot xss xss.length)) ?_
  refine AWp.loop (τ:=ren [(0,128)]) (fun b:Nat×List (List V)=>mkSt [(6,.e (.c (.o 0 (tot xss b.1)))),(25,SS xss),(26,I xss.length),(27,I b.1)] [(0,.row 1 b.2)] 1)
   (fun b=>b.1<=xss.length/\b.2.take (tot xss b.1)=((xss.take b.1).flatten).map (fun n=>[V.x (.int .u8 n)])/\tot xss b.1<=b.2.length) (fun b=>xss.length - b.1) (0,List.replicate (tot xss xss.length) [V.x (.int .u8 0)]) ⟨Nat.zero_le _,rfl,Nat.zero_le _⟩
   (by refine Le.of (ν:=[]) (by kernel_rfl) ?_ ?_<;>((refine Lw qDT31.1 ?_;try exact ⟨⟩);try rfl)) fun b hb=>?_
  obtain ⟨k,rows⟩:=b;obtain ⟨hk,hr,hn⟩:=hb;dsimp only at hk hr hn ⊢;refine Wk qDT31.1 (grow_c (tot xss xss.length)) ?_;refine Cb ?_ ?_<;>intro hc<;>(try exact ⟨⟩)
  .have ht:=tot_succ xss k (by omega);have hle:=tot_le xss (k+1);refine Wk qDT31.1 (grow_c (tot xss xss.length)) ?_;refine Za (τ:=ren [(0,385)]) (ν:=[]) (k+1,rows.take (tot xss k)++(xss.getD k default).map (fun n=>[V.x (.int .u8 n)])) ⟨by dsimp only;omega,?_,?_⟩ (by dsimp only;omega) ?_
   .dsimp only;rw[ht,hr,take_succ_flat xss k (by omega),List.map_append];exact List.take_of_length_le (by rw[List.length_append,tot_map,List.length_map];exact Nat.le_refl _)
   .dsimp only;rw[ht,hr,List.length_append,tot_map,List.length_map];exact Nat.le_refl _
   .refine Le.of (by kernel_rfl) ?_ ?_<;>((refine Lw qDT31.1 ?_;try exact ⟨⟩);try omega)
  .obtain rfl:k=xss.length:=by omega
   refine Wk qDT31.1 (grow_c (tot xss xss.length)) ?_;refine Fn @results156 qDT31.1 ?_;try exact ⟨⟩
   rw[hr,List.take_length];exact ⟨rfl,hn⟩
end ND
namespace ND
def qDT41:=PLift.up (An @Zi @among2)
theorem has1_c (s0 t0 s1 t1:List Int):ACall prog 155 [] [diskD s0 t0 s1 t1,I 1] (B true) []:=by
 refine Ac func155 ?_;refine Wk qDT41.1 trivial ?_;refine Fn @results155 qDT41.1 ?_;try exact ⟨⟩
 rfl
theorem concat2_c (a b:List Int) (h:a.length+b.length<=1000000):ACall prog 156 [] [.e (.c (.v (.s 1 [[sB a],[sB b]])))] (SB (a++b)) []:=by
 have:=concat_c [a,b] (by simpa using h) (by simp);rw[show [a,b].flatten=a++b by simp]at this;exact this
def qDT42:=PLift.up (An @right_c (An @has0_c (An @has1_c @concat2_c)))
theorem read0_c (s0 t0 s1 t1:List Int) (h:okD s0 t0 s1 t1):ACall prog 137 [] [diskD s0 t0 s1 t1,I 0] (SB (s0++t0)) []:=by
 have hd1:=h.1;have hd2:=h.2;refine Ac func137 ?_;refine Wk qDT41.1 qDT42.1 ?_;refine Cb ?_ ?_<;>intro hc<;>(try exact ⟨⟩)
 .simp at hc
 .refine Wk qDT41.1 qDT42.1 ?_;refine Fn @results137 qDT41.1 ?_;try exact ⟨⟩
theorem read1_c (s0 t0 s1 t1:List Int) (h:okD s0 t0 s1 t1):ACall prog 137 [] [diskD s0 t0 s1 t1,I 1] (SB (s1++t1)) []:=by
 have hd1:=h.1;have hd2:=h.2;refine Ac func137 ?_;refine Wk qDT41.1 qDT42.1 ?_;refine Cb ?_ ?_<;>intro hc<;>(try exact ⟨⟩)
 .simp at hc
 .refine Wk qDT41.1 qDT42.1 ?_;refine Fn @results137 qDT41.1 ?_;try exact ⟨⟩
end ND
namespace ND
abbrev resD (s0 t0 s1 t1:List Int) (e:Int):D:=.t [.a (arrD s0 t0 s1 t1),.c (.v (vI e))]
def qDT52:=PLift.up (An @own_c (An @right_c (An @has0_c (An @has1_c (An @concat2_c (An @read0_c (An @read1_c @clone_c)))))))
def qDT51:=PLift.up (An @Zi (An @among2 @take_m))
theorem sync0_c (s0 t0 s1 t1:List Int) (h:okD s0 t0 s1 t1):ACall prog 193 [] [diskD s0 t0 s1 t1,I 0] (resD (s0++t0) [] s1 t1 0) []:=by
 have hd1:=h.1;have hd2:=h.2;obtain ⟨h1,h2⟩:=id h;refine Ac func193 ?_;refine Wk qDT51.1 qDT52.1 ?_;refine Cb ?_ ?_<;>intro hc<;>(try exact ⟨⟩)
 .simp at hc
 .refine Wk qDT51.1 qDT52.1 ?_;refine Fn @results193 qDT51.1 ?_;try exact ⟨⟩
theorem write0_c (s0 t0 s1 t1 b:List Int) (h:okD s0 t0 s1 t1) (hb:s0.length+t0.length+b.length<=65536):ACall prog 99 [] [diskD s0 t0 s1 t1,I 0,SB b] (resD s0 (t0++b) s1 t1 0) []:=by
 have hd1:=h.1;have hd2:=h.2;obtain ⟨h1,h2⟩:=id h;refine Ac func99 ?_;refine Wk qDT51.1 qDT52.1 ?_;refine Cb ?_ ?_<;>intro hc<;>(try exact ⟨⟩)
 .simp at hc
 .refine Wk qDT51.1 qDT52.1 ?_;refine Cb ?_ ?_<;>intro hc<;>(try exact ⟨⟩)
  .omega
  .refine Wk qDT51.1 qDT52.1 ?_;refine Fn @results99 qDT51.1 ?_;try exact ⟨⟩
theorem cut0_c (s0 t0 s1 t1:List Int) (n:Nat) (h:okD s0 t0 s1 t1) (hn:n<=s0.length+t0.length):ACall prog 139 [] [diskD s0 t0 s1 t1,I 0,I n] (resD ((s0++t0).take n) [] s1 t1 0) []:=by
 have hd1:=h.1;have hd2:=h.2;obtain ⟨h1,h2⟩:=id h;refine Ac func139 ?_;refine Wk qDT51.1 qDT52.1 ?_;refine Cb ?_ ?_<;>intro hc<;>(try exact ⟨⟩)
 .simp at hc
 .refine Wk qDT51.1 qDT52.1 ?_;refine Cb ?_ ?_<;>intro hc<;>(try exact ⟨⟩)
  .simp at hc;omega
  .refine Wk qDT51.1 qDT52.1 ?_;refine Fn @results139 qDT51.1 ?_;try exact ⟨⟩
end ND
namespace ND
def gb (gen:Int) (i:Nat):Int:=gen / 2 ^ (56 - 8*i) % 256
def gbs (gen:Int) (i:Nat):List Int:=71::(List.range i).map (gb gen)
theorem gbs_len (gen:Int) (i:Nat):(gbs gen i).length=i+1:=by simp[gbs]
theorem gbs_succ (gen:Int) (i:Nat):gbs gen (i+1)=gbs gen i++[gb gen i]:=by
 rw[gbs,gbs,List.range_succ,List.map_append];rfl
def first (gen:Int) (snap:List Int):List Int:=gbs gen 8++snap
theorem first_len (gen:Int) (snap:List Int):(first gen snap).length=9+snap.length:=by rw[first,List.length_append,gbs_len]
theorem firstF (gen:Int) (snap:List Int):gbs gen 8++snap=first gen snap:=rfl
theorem take_first (gen:Int) (snap:List Int):List.take (9+snap.length) ((first gen snap).map fun n=>[V.x (.int .u8 n)])=(first gen snap).map fun n=>[V.x (.int .u8 n)]:=List.take_of_length_le (by rw[List.length_map,first_len];exact Nat.le_refl _)
theorem take_gbs (gen:Int) (i:Nat):(rB (gbs gen i)).take (i+1)=rB (gbs gen i):=List.take_of_length_le (by rw[List.length_map,gbs_len];exact Nat.le_refl _)
theorem take_gbs8 (gen:Int):(rB (gbs gen 8)).take 9=rB (gbs gen 8):=take_gbs gen 8
theorem app_u8 (xs ys:List Int):(xs.map fun n=>[V.x (.int .u8 n)])++(ys.map fun n=>[V.x (.int .u8 n)])=(xs++ys).map fun n=>[V.x (.int .u8 n)]:=List.map_append.symm
theorem u8_mod (x:Int):IntKind.u8.wrap x=x % 256:=by
 simp only[IntKind.wrap,IntKind.bits,IntKind.signed];simp
theorem gb_eq (gen:Int) (i:Nat) (h:i<=7):IntKind.u8.wrap (gen.fdiv (2 ^ min (56 - 8*(i:Int)).toNat IntKind.i64.bits))=gb gen i:=by
 have e:min (56 - 8*(i:Int)).toNat IntKind.i64.bits=56 - 8*i:=by
  rw[show (56 - 8*(i:Int)).toNat=56 - 8*i by omega];exact Nat.min_eq_left (by show 56 - 8*i<=64;omega)
 rw[e,u8_mod,Int.fdiv_eq_ediv_of_nonneg _ (Int.le_of_lt (Int.pow_pos (by omega)))];rfl
def qDJ21:=PLift.up (An @app_u8 (An @gbs_len (An @take_gbs (An @take_gbs8 (An @List.length_map.{0,0} (An @first_len (An @firstF (An @take_first (An @List.length_append.{0} @List.length_singleton.{0})))))))))
theorem begin0_c (s0 t0 s1 t1:List Int) (gen:Int) (snap:List Int) (h:okD s0 t0 s1 t1) (hs:snap.length<=4000):ACall prog 138 [] [diskD s0 t0 s1 t1,I 0,I gen,SB snap] (resD (put (first gen snap)) [] s1 t1 0) []:=by
 have hd1:=h.1;have hd2:=h.2;have hfl:=first_len gen snap;have hput:=put_c (first gen snap) (by omega) (by omega);have hpl:=put_len (first gen snap);generalize put (first gen snap)=rec at hput hpl ⊢;have hcut:=cut0_c s0 t0 s1 t1 0 h (Nat.zero_le _);rw[List.take_zero]at hcut;have hok:okD [] [] s1 t1:=⟨by simp,h.2⟩
 have hwrite:=write0_c [] [] s1 t1 rec hok (by simp only[List.length_nil];omega);rw[List.nil_append]at hwrite;have hok2:okD [] rec s1 t1:=⟨by simp only[List.length_nil];omega,h.2⟩
 have hsync:=sync0_c [] rec s1 t1 hok2;rw[List.nil_append]at hsync;have hsh:True:=trivial;refine Ac func138 ?_;refine Wk (An @hsh qDJ21.1) (An @hput (An @hcut (An @hwrite @hsync))) ?_
 refine AWp.loop (τ:=ren [(1,64),(2,192)]) (fun i:Nat=>mkSt [(1,I 0),(2,I gen),(3,SB snap),(4,.p 0 0),(8,.p 1 0),(10,.e (.c (.o 2 (i+1)))),(11,I (56 - 8*(i:Int)))] [(0,.loc (arrD s0 t0 s1 t1)),(1,.loc [nilC,nilC,nilC,nilC]),(2,.row 1 (rB (gbs gen i)))] 3)
  (fun i=>i<=8) (fun i=>8 - i) 0 (Nat.zero_le _) (by refine Le.of (ν:=[]) (by kernel_rfl) ?_ ?_<;>((refine Lw (An @hsh qDJ21.1) ?_;try exact ⟨⟩);try rfl)) fun i hi=>?_
 refine Wk (An @hsh qDJ21.1) (An @hput (An @hcut (An @hwrite @hsync))) ?_;refine Cb ?_ ?_<;>intro hc<;>(try exact ⟨⟩)
 .have hsh:=gb_eq gen i (by omega);have hgs:=gbs_succ gen i;refine Wk (An @hsh qDJ21.1) (An @hput (An @hcut (An @hwrite @hsync))) ?_;refine Za (τ:=ren [(2,515)]) (ν:=[]) (i+1) (by omega) (by omega) ?_;refine Le.of (by kernel_rfl) ?_ ?_<;>((refine Lw (An @hsh qDJ21.1) ?_;try exact ⟨⟩);try omega)
  rw[hgs];simp only[List.map_append];rfl
 .obtain rfl:i=8:=by omega
  refine Wk (An @hsh qDJ21.1) (An @hput (An @hcut (An @hwrite @hsync))) ?_;refine Cb ?_ ?_<;>intro hc<;>(try exact ⟨⟩)
  .contradiction
  .refine Wk (An @hsh qDJ21.1) (An @hput (An @hcut (An @hwrite @hsync))) ?_;refine Cb ?_ ?_<;>intro hc<;>(try exact ⟨⟩)
   .contradiction
   .refine Wk (An @hsh qDJ21.1) (An @hput (An @hcut (An @hwrite @hsync))) ?_;refine Cb ?_ ?_<;>intro hc<;>(try exact ⟨⟩)
    .contradiction
    .refine Wk (An @hsh qDJ21.1) (An @hput (An @hcut (An @hwrite @hsync))) ?_;refine Fn @results138 (An @hsh qDJ21.1) ?_;try exact ⟨⟩
end ND
namespace ND
abbrev jA (s0 t0 s1 t1:List Int) (at_ gen:Int):List C:=[.v (sB s0),.v (sB t0),.v (sB s1),.v (sB t1),.v (vI at_),.v (vI gen)]
abbrev jD (s0 t0 s1 t1:List Int) (at_ gen:Int):D:=.e (.a (jA s0 t0 s1 t1 at_ gen))
def qDJ31:=PLift.up (An @has0_c (An @has1_c @clone_c))
theorem may_c (s0 t0 s1 t1:List Int) (at_ gen:Int) (h:okD s0 t0 s1 t1) (ha:at_=0\/at_=1) (hg:1<=gen) (hg2:gen<=4611686018427387904):ACall prog 96 [] [jD s0 t0 s1 t1 at_ gen] (B true) []:=by
 have hd1:=h.1;have hd2:=h.2;have hright:=right_c s0 t0 s1 t1 h;have hown:True:=trivial;refine Ac func96 ?_;refine Wk @among2 (An @hright (An @hown qDJ31.1)) ?_;refine Fn @results96 @among2 ?_;try exact ⟨⟩
 (rw[Bool.eq_iff_iff];simp only[Zf,ne_eq,true_iff,iff_true,Bool.true_and,Bool.and_true,Bool.false_and,Bool.and_false];try omega)
theorem ownJ_c (s0 t0 s1 t1:List Int) (at_ gen:Int) (h:okD s0 t0 s1 t1):ACall prog 97 [] [jD s0 t0 s1 t1 at_ gen] (jD s0 t0 s1 t1 at_ gen) []:=by
 have hd1:=h.1;have hd2:=h.2;have hright:True:=trivial;have hown:True:=trivial;obtain ⟨h0,h1⟩:=h;refine Ac func97 ?_;refine Wk @among2 (An @hright (An @hown qDJ31.1)) ?_
 refine AWp.loop (τ:=ren [(1,64)]) (fun k:Int=>mkSt [(1,.p 0 0),(2,.p 1 0),(7,.e (.a (arrD s0 t0 s1 t1))),(8,I k)] [(0,.loc (jA s0 t0 s1 t1 at_ gen)),(1,.loc [nilC,nilC,nilC,nilC,.v (vI 0),.v (vI 0)])] 2)
  (fun k=>k=0\/k=1\/k=2) (fun k=>(2 - k).toNat) 0 (.inl rfl) (by refine Le.of (ν:=[]) (by kernel_rfl) ?_ ?_<;>(refine Lw @among2 ?_;try exact ⟨⟩)) fun k hk=>?_
 rcases hk with rfl|rfl|rfl
 .refine Wk @among2 (An @hright (An @hown qDJ31.1)) ?_;refine Cb ?_ ?_<;>intro hc<;>(try exact ⟨⟩)
  .refine Wk @among2 (An @hright (An @hown qDJ31.1)) ?_;refine Za 1 (.inr (.inl rfl)) (by omega) (by refine Le.of (τ:=[]) (ν:=[]) (by kernel_rfl) ?_ ?_<;>((refine Lw @among2 ?_;try exact ⟨⟩);try omega))
  .omega
 .refine Wk @among2 (An @hright (An @hown qDJ31.1)) ?_;refine Cb ?_ ?_<;>intro hc<;>(try exact ⟨⟩)
  .refine Wk @among2 (An @hright (An @hown qDJ31.1)) ?_;refine Za 2 (.inr (.inr rfl)) (by omega) (by refine Le.of (τ:=[]) (ν:=[]) (by kernel_rfl) ?_ ?_<;>((refine Lw @among2 ?_;try exact ⟨⟩);try omega))
  .omega
 .refine Wk @among2 (An @hright (An @hown qDJ31.1)) ?_;refine Cb ?_ ?_<;>intro hc<;>(try exact ⟨⟩)
  .omega
  .refine Wk @among2 (An @hright (An @hown qDJ31.1)) ?_;refine Fn @results97 @among2 ?_;try exact ⟨⟩
theorem rightNo_c (s0 t0 s1 t1:List Int) (h:¬okD s0 t0 s1 t1) (h0:s0.length<=70000) (h1:t0.length<=70000) (h2:s1.length<=70000) (h3:t1.length<=70000):ACall prog 135 [] [diskD s0 t0 s1 t1] (B false) []:=by
 have hright:True:=trivial;have hown:True:=trivial;refine Ac func135 ?_;refine Wk @among2 (An @hright (An @hown qDJ31.1)) ?_
 refine AWp.loop (fun k:Int=>mkSt [(1,.p 0 0),(6,.e (.a (arrD s0 t0 s1 t1))),(7,I k)] [(0,.loc (arrD s0 t0 s1 t1))] 1)
  (fun k=>k=0\/(k=1/\s0.length+t0.length<=65536)) (fun k=>(2 - k).toNat) 0 (.inl rfl) (by refine Le.of (τ:=[]) (ν:=[]) (by kernel_rfl) ?_ ?_<;>((refine Lw @among2 ?_;try exact ⟨⟩);try omega)) fun k hk=>?_
 rcases hk with rfl|⟨rfl,hk⟩
 .refine Wk @among2 (An @hright (An @hown qDJ31.1)) ?_;refine Cb ?_ ?_<;>intro hc<;>(try exact ⟨⟩)
  .refine Wk @among2 (An @hright (An @hown qDJ31.1)) ?_;refine Cb ?_ ?_<;>intro hc<;>(try exact ⟨⟩)
   .refine Wk @among2 (An @hright (An @hown qDJ31.1)) ?_;refine Fn @results135 @among2 ?_;try exact ⟨⟩
   .refine Wk @among2 (An @hright (An @hown qDJ31.1)) ?_;refine Za 1 (.inr ⟨rfl,by omega⟩) (by omega) (by refine Le.of (τ:=[]) (ν:=[]) (by kernel_rfl) ?_ ?_<;>((refine Lw @among2 ?_;try exact ⟨⟩);try omega))
  .omega
 .refine Wk @among2 (An @hright (An @hown qDJ31.1)) ?_;refine Cb ?_ ?_<;>intro hc<;>(try exact ⟨⟩)
  .refine Wk @among2 (An @hright (An @hown qDJ31.1)) ?_;refine Cb ?_ ?_<;>intro hc<;>(try exact ⟨⟩)
   .refine Wk @among2 (An @hright (An @hown qDJ31.1)) ?_;refine Fn @results135 @among2 ?_;try exact ⟨⟩
   .exact absurd ⟨hk,by omega⟩ h
  .omega
theorem writex0_c (s0 t0 s1 t1 b:List Int) (h:okD s0 t0 s1 t1) (hb:65536<s0.length+t0.length+b.length) (hb2:b.length<=1000000):ACall prog 99 [] [diskD s0 t0 s1 t1,I 0,SB b] (resD s0 t0 s1 t1 5) []:=by
 have hd1:=h.1;have hd2:=h.2;have hright:=right_c s0 t0 s1 t1 h;have hown:=own_c s0 t0 s1 t1 (by have:=h.1;omega) (by have:=h.1;omega) (by have:=h.2;omega) (by have:=h.2;omega);obtain ⟨h0,h1⟩:=h;refine Ac func99 ?_;refine Wk @among2 (An @hright (An @hown qDJ31.1)) ?_;refine Cb ?_ ?_<;>intro hc<;>(try exact ⟨⟩)
 .contradiction
 .refine Wk @among2 (An @hright (An @hown qDJ31.1)) ?_;refine Cb ?_ ?_<;>intro hc<;>(try exact ⟨⟩)
  .refine Wk @among2 (An @hright (An @hown qDJ31.1)) ?_;refine Fn @results99 @among2 ?_;try exact ⟨⟩
  .omega
end ND
end Eng
end Go.Proofs.YtgenjpingdkmgaaGreatDoor
