/- Contracts of functions that this seat's law calls. No condition. -/
import Derived.Test.YtgenjpingdkmgaaGreatDoorG17
set_option maxRecDepth 100000
set_option linter.unusedSimpArgs false
set_option linter.unusedVariables false
open Go.Proofs.Tryz
namespace Go.Proofs.YtgenjpingdkmgaaGreatDoor
namespace Eng
noncomputable def comeS (b:Bk) (x:Exe):Bk×Int:=if exB x=true then takeS b x else (b,0)
theorem exec_c (x:Exe) (r:Bool) (hr:exB x=r):ACall prog 20 [] [xD x] (B r) []:=NS.ex_c (exM x) r hr
def qBK1:=PLift.up (An @Z0 (An @Zh @Zi))
theorem come_c (b:Bk) (x:Exe) (h:bkP b) (r:Bk×Int) (hr:comeS b x=r):ACall prog 59 [] [bkD b,xD x] (.t [.a (bkC r.1),.c (.v (vI r.2))]) []:=by
 have hol:=(NO.Zy.1 h.ords).1;have hfl:=h.fl;have hil:=h.il;have hown:=own_c b (by omega) (by omega) (by omega);have hri:=bkRight_c b h;have hex:=exec_c x _ rfl;unfold comeS at hr;refine Ac func59 ?_
 cases hx:exB x with
 | false =>
  rw[hx]at hr hex;rw[if_neg (by decide)]at hr;subst hr;refine Wk qBK1.1 (An @hown (An @hri @hex)) ?_;refine Cb ?_ ?_<;>intro hc<;>(try exact ⟨⟩)
  .refine Wk qBK1.1 (An @hown (An @hri @hex)) ?_;refine Fn @results59 qBK1.1 ?_;try exact ⟨⟩
  .contradiction
 | true =>
  rw[hx]at hr hex;rw[if_pos rfl]at hr;have hclk:=h.clock
  have htk:=btake_c b x (by omega) (by omega) (by omega) (fun f hf=>by have:=(h.fills f hf).2.2;omega) (by
   have:=hx;simp only[exB,NS.exB,exM,Bool.and_eq_true]at this;obtain ⟨_,_,h3⟩:=this;simp only[NS.whenB,Bool.and_eq_true,decide_eq_true_eq]at h3
   exact h3) r hr
  refine Wk qBK1.1 (An @hown (An @hri (An @hex @htk))) ?_;refine Cb ?_ ?_<;>intro hc<;>(try exact ⟨⟩)
  .contradiction
  .refine Wk qBK1.1 (An @hown (An @hri (An @hex @htk))) ?_;refine Fn @results59 qBK1.1 ?_;try exact ⟨⟩
theorem sent1_c (x:Exe) (o:Ord):ACall prog 127 [] [NO.oD o,.q (xcap x)] (B (sentP x o)) []:=by
 refine Ac func127 ?_;refine Wk @NO.Ze trivial ?_;refine Fn @results127 @NO.Ze ?_;try exact ⟨⟩
 unfold sentP;rw[Bool.eq_iff_iff];simp only[Bool.and_eq_true,Bool.or_eq_true,beq_iff_eq,decide_eq_true_eq,and_assoc]
theorem sent_c (l:List Ord) (x:Exe) (hl:l.length<=1000000) (r:Int) (hr:sentI l x=r):ACall prog 60 [] [NO.osD l,xD x] (I r) []:=by
 subst hr;have hix:=indexG_c l (sentP x) 127 (xcap x) (sent1_c x) hl;refine Ac func60 ?_;refine Wk @NO.Ze @hix ?_;refine Fn @results60 @NO.Ze ?_;try exact ⟨⟩
 rfl
theorem del_rows (xs:List (List V)) (z:List V) (i j:Nat) (hij:i<=j) (hj:j<=xs.length) :
 putRows (putRows xs i ((xs.drop j).take (xs.length - j))) (i+(xs.length - j)) (List.replicate (xs.length - (i+(xs.length - j))) z)=xs.take i++xs.drop j++List.replicate (j - i) z:=by
 have h1:(xs.drop j).take (xs.length - j)=xs.drop j:=List.take_of_length_le (by rw[List.length_drop];exact Nat.le_refl _);have h2:xs.length - (i+(xs.length - j))=j - i:=by omega
 unfold putRows splice;rw[h1,h2];have l1:(xs.take i).length=i:=by simp;omega
 have l2:(xs.take i++xs.drop j).length=i+(xs.length - j):=by simp;omega
 have l3:∀r:List (List V),r.length<=j - i->((xs.take i++xs.drop j)++r).drop (i+(xs.length - j)+(List.replicate (j - i) z).length)=[]:=fun r hr =>
  List.drop_of_length_le (by rw[List.length_append,l2,List.length_replicate];omega)
 rw[List.take_left' l2,l3 _ (by rw[List.length_drop,List.length_drop];omega),List.append_nil]
abbrev zO:List V:=[.x (.string ⟨#[]⟩),.x (.string ⟨#[]⟩),.x (.string ⟨#[]⟩),.x (.bool false),.x (.int .i64 0),.x (.int .i64 0),.x (.int .i64 0),.x (.bool false)]
theorem deleteO_c (l:List NO.Ord) (i:Nat) (h:i<l.length) (hl:l.length<=1000000) :
 ACall prog 61 [.row 8 (NO.oR l)] [.e (.c (.o 0 l.length)),I i,I (i+1)] (.e (.c (.o 0 (l.length - 1)))) [.row 8 (NO.oR (l.eraseIdx i)++[zO])]:=by
 have hne:decide ((i:Int)=i+1)=false:=decide_eq_false (by omega);refine Ac func61 ?_;refine Wo (Own.mk (f:=(oF [0]))) @hne trivial ?_;refine Cb ?_ ?_<;>intro hc<;>(try exact ⟨⟩)
 .omega
 .refine Wo (Own.mk (f:=(oF [0]))) @hne trivial ?_;refine Fs @results61 ?_;refine ⟨[0],[],[],by kernel_rfl,?_,?_⟩<;>((refine Lw @hne ?_;try exact ⟨⟩);try omega)
  have hd:=del_rows (NO.oR l) zO i (i+1) (by omega) (by simp;omega);simp only[List.length_map]at hd;have e:((i:Int)+1).toNat=i+1:=by omega
  rw[e];refine Eq.trans ?_ hd.symm
  have e2:NO.oR (l.eraseIdx i)=List.take i (NO.oR l)++List.drop (i+1) (NO.oR l):=by
   rw[List.eraseIdx_eq_take_drop_succ,<-List.map_take,<-List.map_drop];exact List.map_append
  rw[e2,show i+1 - i=1 by omega];rfl
abbrev bkP1 (b:Bk) (j:Nat):List C:=[.v (NO.osV b.ords),.v (fsV b.fills),.o j b.ids.length,.v (vI b.clock),.v (vI b.bad)]
def qBL1:=PLift.up (An @Z0 (An @Zh @Zi))
theorem zBL1 {R G:Prop} (k:R) (h:Box R->G:=by
 intro k;simp (disch:=omega) only[↓reduceIte,Zo,backT,pos,idsB,idsC,nodup,live,makeSliceE,viewE,viewFE,appendUE,appendFE,capFE,copyE,copySrc,clearE,guardB,isNilOp,nilS,withTy,splice,lenE,appendE,sliceE,boundE,indexAddrE,indexE,buildE,fillE,buildSliceE,partsE,builtinE,minE,minI,convE,convHE,appendNE,capE,D.x,id_eq,eq_self,if_true,if_false,ne_eq,implies_true,Nat.reduceAdd,Nat.reduceMul,Nat.reduceSub,Nat.reduceEqDiff,Nat.reduceLT,Nat.reduceLeDiff,reduceCtorEq,Z0,Zh,Zi,Zp,forall_const,Nat.reduceBEq,Int.reduceEq,Int.reduceToNat,bne_self_eq_false,true_and,tyAll]
 all_goals exact k.out):G:=h ⟨k⟩
theorem cloneS2_c (l:List ByteArray) (h:l.length<=1000000):ACall prog 87 [.row 1 (sR l)] [.e (.c (.o 0 l.length))] (.e (.c (.o 1 l.length))) [.row 1 (sR l),.row 1 (sR l)]:=by
 refine Ac func87 ?_
 repeat' (first|((fail_if_success clear hK);change AWp _ _ _ _ _ _;first|refine AWp.seq ?_|refine AWp.text (own:=(oF [87])) tG_ok (by kernel_rfl) (fun K hK=>?_)|refine AWp.draw (own:=(oF [87])) tG_ok mixed (by kernel_rfl) (by kernel_rfl) (fun K hK=>?_)|refine AWp.skip ?_|refine AWp.ret ?_|refine AWp.exit ?_|refine AWp.label ?_|refine AWp.block ?_)|(revert hK;intro hK;first|(with_reducible refine hK _ _ _ ?_;clear hK K)|(with_reducible refine hK _ _ _ ?_ ?_;(focus kernel_rfl);clear hK K)|((with_reducible change CallS _ _ _ _ _ _);(first|refine CallS.of hcl1 ?_|refine CallS.of hcl2 ?_|refine CallS.of hcl3 ?_))|(with_reducible refine And.intro ?_ ?_)|((first|exact zBL1 trivial|refine zBL1 ?_))|(first|omega|(intro hq;(try simp only[Zf,ne_eq,Bool.not_not,Bool.and_true]at hq);first|omega|assumption|(simp_all;done))|(simp_all;done))|(intro (bn:Bool) hbn)))
 refine Cb ?_ ?_<;>intro hc<;>(try exact ⟨⟩)
 .repeat' (first|((fail_if_success clear hK);change AWp _ _ _ _ _ _;first|refine AWp.seq ?_|refine AWp.text (own:=(oF [87])) tG_ok (by kernel_rfl) (fun K hK=>?_)|refine AWp.draw (own:=(oF [87])) tG_ok mixed (by kernel_rfl) (by kernel_rfl) (fun K hK=>?_)|refine AWp.skip ?_|refine AWp.ret ?_|refine AWp.exit ?_|refine AWp.label ?_|refine AWp.block ?_)|(revert hK;intro hK;first|(with_reducible refine hK _ _ _ ?_;clear hK K)|(with_reducible refine hK _ _ _ ?_ ?_;(focus kernel_rfl);clear hK K)|((with_reducible change CallS _ _ _ _ _ _);(first|refine CallS.of hcl1 ?_|refine CallS.of hcl2 ?_|refine CallS.of hcl3 ?_))|(with_reducible refine And.intro ?_ ?_)|((first|exact zBL1 trivial|refine zBL1 ?_))|(first|omega|(intro hq;(try simp only[Zf,ne_eq,Bool.not_not,Bool.and_true]at hq);first|omega|assumption|(simp_all;done))|(simp_all;done))|(intro (bn:Bool) hbn)))
  subst hc;have e:l=[]:=by have:=hbn rfl;simpa using this
  subst e;refine Fs @results87 ?_;refine ⟨[0],[],[1],by kernel_rfl,?_,?_⟩<;>((refine Lw qBL1.1 ?_;try exact ⟨⟩);try rfl)
 .repeat' (first|((fail_if_success clear hK);change AWp _ _ _ _ _ _;first|refine AWp.seq ?_|refine AWp.text (own:=(oF [87])) tG_ok (by kernel_rfl) (fun K hK=>?_)|refine AWp.draw (own:=(oF [87])) tG_ok mixed (by kernel_rfl) (by kernel_rfl) (fun K hK=>?_)|refine AWp.skip ?_|refine AWp.ret ?_|refine AWp.exit ?_|refine AWp.label ?_|refine AWp.block ?_)|(revert hK;intro hK;first|(with_reducible refine hK _ _ _ ?_;clear hK K)|(with_reducible refine hK _ _ _ ?_ ?_;(focus kernel_rfl);clear hK K)|((with_reducible change CallS _ _ _ _ _ _);(first|refine CallS.of hcl1 ?_|refine CallS.of hcl2 ?_|refine CallS.of hcl3 ?_))|(with_reducible refine And.intro ?_ ?_)|((first|exact zBL1 trivial|refine zBL1 ?_))|(first|omega|(intro hq;(try simp only[Zf,ne_eq,Bool.not_not,Bool.and_true]at hq);first|omega|assumption|(simp_all;done))|(simp_all;done))|(intro (bn:Bool) hbn)))
  refine Fs @results87 ?_;refine ⟨[0,321],[(1,321)],[],by kernel_rfl,?_,?_⟩<;>((refine Lw qBL1.1 ?_;try exact ⟨⟩);try omega)
theorem own2_c (b:Bk) (h1:b.ords.length<=1000000) (h2:b.fills.length<=1000000) (h3:b.ids.length<=1000000):ACall prog 124 [.row 1 (sR b.ids)] [.e (.a (bkP1 b 0))] (.e (.a (bkO b 1 2))) [.row 1 (sR b.ids),.row 9 (fR b.fills),.row 1 (sR b.ids)]:=by
 have hcl1:=NO.clone_c b.ords h1;have hcl2:=cloneF_c b.fills h2;have hcl3:=cloneS2_c b.ids h3;refine Ac func124 ?_
 repeat' (first|((fail_if_success clear hK);change AWp _ _ _ _ _ _;first|refine AWp.seq ?_|refine AWp.text (own:=(oF [87])) tG_ok (by kernel_rfl) (fun K hK=>?_)|refine AWp.draw (own:=(oF [87])) tG_ok mixed (by kernel_rfl) (by kernel_rfl) (fun K hK=>?_)|refine AWp.skip ?_|refine AWp.ret ?_|refine AWp.exit ?_|refine AWp.label ?_|refine AWp.block ?_)|(revert hK;intro hK;first|(with_reducible refine hK _ _ _ ?_;clear hK K)|(with_reducible refine hK _ _ _ ?_ ?_;(focus kernel_rfl);clear hK K)|((with_reducible change CallS _ _ _ _ _ _);(first|refine CallS.of hcl1 ?_|refine CallS.of hcl2 ?_|refine CallS.of hcl3 ?_))|(with_reducible refine And.intro ?_ ?_)|((first|exact zBL1 trivial|refine zBL1 ?_))|(first|omega|(intro hq;(try simp only[Zf,ne_eq,Bool.not_not,Bool.and_true]at hq);first|omega|assumption|(simp_all;done))|(simp_all;done))|(intro (bn:Bool) hbn)))
 refine Fs @results124 ?_;refine ⟨[0,577,897],[(1,577),(2,897)],[],by kernel_rfl,?_,?_⟩<;>((refine Lw qBL1.1 ?_;try exact ⟨⟩);try omega)
def qBM1:=PLift.up (An @Z0 (An @Zh @Zi))
theorem zBM1 {R G:Prop} (k:R) (h:Box R->G:=by
 intro k;simp (disch:=omega) only[↓reduceIte,Zo,backT,pos,idsB,idsC,nodup,live,makeSliceE,viewE,viewFE,appendUE,appendFE,capFE,copyE,copySrc,clearE,guardB,isNilOp,nilS,withTy,splice,lenE,appendE,sliceE,boundE,indexAddrE,indexE,buildE,fillE,buildSliceE,partsE,builtinE,minE,minI,convE,convHE,appendNE,capE,D.x,id_eq,eq_self,if_true,if_false,ne_eq,implies_true,Nat.reduceAdd,Nat.reduceMul,Nat.reduceSub,Nat.reduceEqDiff,Nat.reduceLT,Nat.reduceLeDiff,reduceCtorEq,Z0,Zh,Zi,Zp,forall_const,Nat.reduceBEq,Int.reduceEq,Int.reduceToNat,bne_self_eq_false,true_and,tyAll]
 all_goals exact k.out):G:=h ⟨k⟩
theorem come2_c (b:Bk) (x:Exe) (h:bkP b) (r:Bk×Int) (hr:comeS b x=r):ACall prog 59 [.row 1 (sR b.ids)] [.e (.a (bkP1 b 0)),xD x] (.t [.a (bkC r.1),.c (.v (vI r.2))]) [.row 1 (sR b.ids)]:=by
 have hol:=(NO.Zy.1 h.ords).1;have hfl:=h.fl;have hil:=h.il;have hown:=own2_c b (by omega) (by omega) (by omega);have hri:=bkRight_c b h;have hex:=exec_c x _ rfl;unfold comeS at hr;refine Ac func59 ?_
 cases hx:exB x with
 | false =>
  rw[hx]at hr hex;rw[if_neg (by decide)]at hr;subst hr
  repeat' (first|((fail_if_success clear hK);change AWp _ _ _ _ _ _;first|refine AWp.seq ?_|refine AWp.text (own:=(oF [124])) tG_ok (by kernel_rfl) (fun K hK=>?_)|refine AWp.draw (own:=(oF [124])) tG_ok mixed (by kernel_rfl) (by kernel_rfl) (fun K hK=>?_)|refine AWp.skip ?_|refine AWp.ret ?_|refine AWp.exit ?_|refine AWp.label ?_|refine AWp.block ?_)|(revert hK;intro hK;first|(with_reducible refine hK _ _ _ ?_;clear hK K)|(with_reducible refine hK _ _ _ ?_ ?_;(focus kernel_rfl);clear hK K)|((with_reducible change CallS _ _ _ _ _ _);(first|refine CallS.of hown ?_|refine CallS.of hri ?_|refine CallS.of hex ?_|refine CallS.of htk ?_))|(with_reducible refine And.intro ?_ ?_)|((first|exact zBM1 trivial|refine zBM1 ?_))|(first|omega|(intro hq;(try simp only[Zf,ne_eq,Bool.not_not,Bool.and_true]at hq);first|omega|assumption|(simp_all;done))|(simp_all;done))|(intro (bn:Bool) hbn)))
  refine Cb ?_ ?_<;>intro hc<;>(try exact ⟨⟩)
  .repeat' (first|((fail_if_success clear hK);change AWp _ _ _ _ _ _;first|refine AWp.seq ?_|refine AWp.text (own:=(oF [124])) tG_ok (by kernel_rfl) (fun K hK=>?_)|refine AWp.draw (own:=(oF [124])) tG_ok mixed (by kernel_rfl) (by kernel_rfl) (fun K hK=>?_)|refine AWp.skip ?_|refine AWp.ret ?_|refine AWp.exit ?_|refine AWp.label ?_|refine AWp.block ?_)|(revert hK;intro hK;first|(with_reducible refine hK _ _ _ ?_;clear hK K)|(with_reducible refine hK _ _ _ ?_ ?_;(focus kernel_rfl);clear hK K)|((with_reducible change CallS _ _ _ _ _ _);(first|refine CallS.of hown ?_|refine CallS.of hri ?_|refine CallS.of hex ?_|refine CallS.of htk ?_))|(with_reducible refine And.intro ?_ ?_)|((first|exact zBM1 trivial|refine zBM1 ?_))|(first|omega|(intro hq;(try simp only[Zf,ne_eq,Bool.not_not,Bool.and_true]at hq);first|omega|assumption|(simp_all;done))|(simp_all;done))|(intro (bn:Bool) hbn)))
   refine Fs @results59 ?_;refine ⟨[0],[],[],by kernel_rfl,?_,?_⟩<;>((refine Lw qBM1.1 ?_;try exact ⟨⟩);try omega)
  .contradiction
 | true =>
  rw[hx]at hr hex;rw[if_pos rfl]at hr;have hclk:=h.clock
  have htk:=btake_c b x (by omega) (by omega) (by omega) (fun f hf=>by have:=(h.fills f hf).2.2;omega) (by
   have:=hx;simp only[exB,NS.exB,exM,Bool.and_eq_true]at this;obtain ⟨_,_,h3⟩:=this;simp only[NS.whenB,Bool.and_eq_true,decide_eq_true_eq]at h3
   exact h3) r hr
  repeat' (first|((fail_if_success clear hK);change AWp _ _ _ _ _ _;first|refine AWp.seq ?_|refine AWp.text (own:=(oF [124])) tG_ok (by kernel_rfl) (fun K hK=>?_)|refine AWp.draw (own:=(oF [124])) tG_ok mixed (by kernel_rfl) (by kernel_rfl) (fun K hK=>?_)|refine AWp.skip ?_|refine AWp.ret ?_|refine AWp.exit ?_|refine AWp.label ?_|refine AWp.block ?_)|(revert hK;intro hK;first|(with_reducible refine hK _ _ _ ?_;clear hK K)|(with_reducible refine hK _ _ _ ?_ ?_;(focus kernel_rfl);clear hK K)|((with_reducible change CallS _ _ _ _ _ _);(first|refine CallS.of hown ?_|refine CallS.of hri ?_|refine CallS.of hex ?_|refine CallS.of htk ?_))|(with_reducible refine And.intro ?_ ?_)|((first|exact zBM1 trivial|refine zBM1 ?_))|(first|omega|(intro hq;(try simp only[Zf,ne_eq,Bool.not_not,Bool.and_true]at hq);first|omega|assumption|(simp_all;done))|(simp_all;done))|(intro (bn:Bool) hbn)))
  refine Cb ?_ ?_<;>intro hc<;>(try exact ⟨⟩)
  .contradiction
  .repeat' (first|((fail_if_success clear hK);change AWp _ _ _ _ _ _;first|refine AWp.seq ?_|refine AWp.text (own:=(oF [124])) tG_ok (by kernel_rfl) (fun K hK=>?_)|refine AWp.draw (own:=(oF [124])) tG_ok mixed (by kernel_rfl) (by kernel_rfl) (fun K hK=>?_)|refine AWp.skip ?_|refine AWp.ret ?_|refine AWp.exit ?_|refine AWp.label ?_|refine AWp.block ?_)|(revert hK;intro hK;first|(with_reducible refine hK _ _ _ ?_;clear hK K)|(with_reducible refine hK _ _ _ ?_ ?_;(focus kernel_rfl);clear hK K)|((with_reducible change CallS _ _ _ _ _ _);(first|refine CallS.of hown ?_|refine CallS.of hri ?_|refine CallS.of hex ?_|refine CallS.of htk ?_))|(with_reducible refine And.intro ?_ ?_)|((first|exact zBM1 trivial|refine zBM1 ?_))|(first|omega|(intro hq;(try simp only[Zf,ne_eq,Bool.not_not,Bool.and_true]at hq);first|omega|assumption|(simp_all;done))|(simp_all;done))|(intro (bn:Bool) hbn)))
   refine Fs @results59 ?_;refine ⟨[0],[],[],by kernel_rfl,?_,?_⟩<;>((refine Lw qBM1.1 ?_;try exact ⟨⟩);try omega)
theorem take_rng (b:Bk) (x:Exe):(takeS b x).2=1\/(takeS b x).2=2\/(takeS b x).2=3\/(takeS b x).2=4:=by
 unfold takeS
 split
 .exact .inr (.inr (.inr rfl))
 .split
  .exact .inr (.inl rfl)
  .split
   .exact .inl rfl
   .exact .inr (.inr (.inl rfl))
def qGT1:=PLift.up (An @Yl @Zi)
theorem toldA_c (g:Gat) (k:Nat) (x:Exe) (v:Ven) (nb:Bk) (w p:Int) (h:gatP g) (hk:k<g.vens.length) (hat:ACall prog 49 [] [gtD g,I k] (B true) []) (hv:g.vens.getD k default=v) (hcome:ACall prog 59 [] [bkD v.bk,xD x] (.t [.a (bkC nb),.c (.v (vI w))]) []) (hsent:ACall prog 60 [] [NO.osD v.sent,xD x] (I p) []) (hw:w=2\/w=4):ACall prog 21 [] [gtD g,I k,xD x] (gres3 g w 0) []:=by
 have hcl:=clone_c g h;refine Ac func21 ?_;refine Wk (An @hv qGT1.1) (An @hcl (An @hat (An @hcome @hsent))) ?_;refine Cb ?_ ?_<;>intro hc<;>(try exact ⟨⟩)
 .contradiction
 .refine Wk (An @hv qGT1.1) (An @hcl (An @hat (An @hcome @hsent))) ?_;refine Cb ?_ ?_<;>intro hc<;>(try exact ⟨⟩)
  .refine Wk (An @hv qGT1.1) (An @hcl (An @hat (An @hcome @hsent))) ?_;refine Cb ?_ ?_<;>intro hc<;>(try exact ⟨⟩)
   .refine Wk (An @hv qGT1.1) (An @hcl (An @hat (An @hcome @hsent))) ?_;refine Fn @results21 (An @hv qGT1.1) ?_;try exact ⟨⟩
   .omega
  .refine Wk (An @hv qGT1.1) (An @hcl (An @hat (An @hcome @hsent))) ?_;refine Cb ?_ ?_<;>intro hc<;>(try exact ⟨⟩)
   .refine Wk (An @hv qGT1.1) (An @hcl (An @hat (An @hcome @hsent))) ?_;refine Fn @results21 (An @hv qGT1.1) ?_;try exact ⟨⟩
   .omega
theorem told0_c (g:Gat) (k:Nat) (x:Exe) (v:Ven) (nb:Bk) (w p:Int) (h:gatP g) (hk:k<g.vens.length) (hat:ACall prog 49 [] [gtD g,I k] (B true) []) (hv:g.vens.getD k default=v) (hcome:ACall prog 59 [] [bkD v.bk,xD x] (.t [.a (bkC nb),.c (.v (vI w))]) []) (hsent:ACall prog 60 [] [NO.osD v.sent,xD x] (I p) []) (hw:w=0):ACall prog 21 [] [gtD g,I k,xD x] (gres3 g 0 1) []:=by
 have hcl:=clone_c g h;refine Ac func21 ?_;refine Wk (An @hv qGT1.1) (An @hcl (An @hat (An @hcome @hsent))) ?_;refine Cb ?_ ?_<;>intro hc<;>(try exact ⟨⟩)
 .contradiction
 .refine Wk (An @hv qGT1.1) (An @hcl (An @hat (An @hcome @hsent))) ?_;refine Cb ?_ ?_<;>intro hc<;>(try exact ⟨⟩)
  .omega
  .refine Wk (An @hv qGT1.1) (An @hcl (An @hat (An @hcome @hsent))) ?_;refine Cb ?_ ?_<;>intro hc<;>(try exact ⟨⟩)
   .omega
   .refine Wk (An @hv qGT1.1) (An @hcl (An @hat (An @hcome @hsent))) ?_;refine Cb ?_ ?_<;>intro hc<;>(try exact ⟨⟩)
    .omega
    .refine Wk (An @hv qGT1.1) (An @hcl (An @hat (An @hcome @hsent))) ?_;refine Cb ?_ ?_<;>intro hc<;>(try exact ⟨⟩)
     .omega
     .refine Wk (An @hv qGT1.1) (An @hcl (An @hat (An @hcome @hsent))) ?_;refine Fn @results21 (An @hv qGT1.1) ?_;try exact ⟨⟩
theorem app_ids (l:List ByteArray) (s:ByteArray):sR (l++[s])=List.take (l.length+1) (sR l++[[V.x (.string s)]]):=by
 rw[List.take_of_length_le (by simp)];simp
theorem shut_ids (l:List Ven) (k:Nat) (v:Ven) (s:ByteArray):vR (l.set k { v with bk:={ v.bk with ids:=v.bk.ids++[s],bad:=2 } })=(vR l).set k [NO.osV v.bk.ords,fsV v.bk.fills,V.s 1 (List.take (v.bk.ids.length+1) (sR v.bk.ids++[[V.x (.string s)]])),vI v.bk.clock,vI 2,NO.osV v.sent,vI v.last,vB v.gap]:=by
 rw[set_vR,<-app_ids]
theorem shut_del (l:List Ven) (k:Nat) (v:Ven) (nb:Bk) (now:Int) (i:Nat) (hi:i<v.sent.length):vR (l.set k { v with bk:=nb,last:=now,sent:=v.sent.eraseIdx i })=(vR l).set k [NO.osV nb.ords,fsV nb.fills,ssV nb.ids,vI nb.clock,vI nb.bad,V.s 8 (List.take (v.sent.length - 1) (NO.oR (v.sent.eraseIdx i)++[zO])),vI now,vB v.gap]:=by
 have e:List.take (v.sent.length - 1) (NO.oR (v.sent.eraseIdx i)++[zO])=NO.oR (v.sent.eraseIdx i):=by
  rw[<-List.length_eraseIdx_of_lt hi];exact List.take_left' (by simp)
 rw[set_vR,e]
theorem toldB_c (g:Gat) (k:Nat) (x:Exe) (v:Ven) (nb:Bk) (w p:Int) (h:gatP g) (hk:k<g.vens.length) (hat:ACall prog 49 [] [gtD g,I k] (B true) []) (hv:g.vens.getD k default=v) (hcome:ACall prog 59 [] [bkD v.bk,xD x] (.t [.a (bkC nb),.c (.v (vI w))]) []) (hsent:ACall prog 60 [] [NO.osD v.sent,xD x] (I p) []) (hw:w=3) (hp:(x.kind=1\/x.kind=4)->0<=p):ACall prog 21 [] [gtD g,I k,xD x] (gres3 (setV g k { v with bk:=nb }) 3 0) []:=by
 have hcl:=clone_c g h;subst hw;refine Ac func21 ?_;refine Wk (An @hv qGT1.1) (An @hcl (An @hat (An @hcome @hsent))) ?_;refine Cb ?_ ?_<;>intro hc<;>(try exact ⟨⟩)
 .contradiction
 .refine Wk (An @hv qGT1.1) (An @hcl (An @hat (An @hcome @hsent))) ?_;refine Cb ?_ ?_<;>intro hc<;>(try exact ⟨⟩)
  .contradiction
  .refine Wk (An @hv qGT1.1) (An @hcl (An @hat (An @hcome @hsent))) ?_;refine Cb ?_ ?_<;>intro hc<;>(try exact ⟨⟩)
   .contradiction
   .refine Wk (An @hv qGT1.1) (An @hcl (An @hat (An @hcome @hsent))) ?_;refine Cb ?_ ?_<;>intro hc<;>(try exact ⟨⟩)
    .contradiction
    .refine Wk (An @hv qGT1.1) (An @hcl (An @hat (An @hcome @hsent))) ?_;refine Cb ?_ ?_<;>intro hc<;>(try exact ⟨⟩)
     .refine Wk (An @hv qGT1.1) (An @hcl (An @hat (An @hcome @hsent))) ?_;refine Cb ?_ ?_<;>intro hc<;>(try exact ⟨⟩)
      .have hp:=hp hc;refine Wk (An @hv qGT1.1) (An @hcl (An @hat (An @hcome @hsent))) ?_;refine Cb ?_ ?_<;>intro hc<;>(try exact ⟨⟩)
       .omega
       .refine Wk (An @hv qGT1.1) (An @hcl (An @hat (An @hcome @hsent))) ?_;refine Cb ?_ ?_<;>intro hc<;>(try exact ⟨⟩)
        .contradiction
        .refine Wk (An @hv qGT1.1) (An @hcl (An @hat (An @hcome @hsent))) ?_;refine Fn @results21 (An @hv qGT1.1) ?_;try exact ⟨⟩
         exact ⟨upd_row _ _ _ _ (by rw[Zt _ _ hk,hv];rfl),by (repeat' constructor)⟩
      .refine Wk (An @hv qGT1.1) (An @hcl (An @hat (An @hcome @hsent))) ?_;refine Cb ?_ ?_<;>intro hc<;>(try exact ⟨⟩)
       .contradiction
       .refine Wk (An @hv qGT1.1) (An @hcl (An @hat (An @hcome @hsent))) ?_;refine Fn @results21 (An @hv qGT1.1) ?_;try exact ⟨⟩
        exact ⟨upd_row _ _ _ _ (by rw[Zt _ _ hk,hv];rfl),by (repeat' constructor)⟩
     .contradiction
theorem toldC_c (g:Gat) (k:Nat) (x:Exe) (v:Ven) (nb:Bk) (w p:Int) (h:gatP g) (hk:k<g.vens.length) (hat:ACall prog 49 [] [gtD g,I k] (B true) []) (hv:g.vens.getD k default=v) (hcome:ACall prog 59 [] [bkD v.bk,xD x] (.t [.a (bkC nb),.c (.v (vI w))]) []) (hsent:ACall prog 60 [] [NO.osD v.sent,xD x] (I p) []) (hw:w=1) (hk14:¬(x.kind=1\/x.kind=4)):ACall prog 21 [] [gtD g,I k,xD x] (gres3 (setV g k { v with bk:=nb,last:=g.now }) 1 0) []:=by
 have hcl:=clone_c g h;subst hw;refine Ac func21 ?_;refine Wk (An @hv qGT1.1) (An @hcl (An @hat (An @hcome @hsent))) ?_;refine Cb ?_ ?_<;>intro hc<;>(try exact ⟨⟩)
 .contradiction
 .refine Wk (An @hv qGT1.1) (An @hcl (An @hat (An @hcome @hsent))) ?_;refine Cb ?_ ?_<;>intro hc<;>(try exact ⟨⟩)
  .contradiction
  .refine Wk (An @hv qGT1.1) (An @hcl (An @hat (An @hcome @hsent))) ?_;refine Cb ?_ ?_<;>intro hc<;>(try exact ⟨⟩)
   .contradiction
   .refine Wk (An @hv qGT1.1) (An @hcl (An @hat (An @hcome @hsent))) ?_;refine Cb ?_ ?_<;>intro hc<;>(try exact ⟨⟩)
    .refine Wk (An @hv qGT1.1) (An @hcl (An @hat (An @hcome @hsent))) ?_;refine Cb ?_ ?_<;>intro hc<;>(try exact ⟨⟩)
     .refine Wk (An @hv qGT1.1) (An @hcl (An @hat (An @hcome @hsent))) ?_;refine Cb ?_ ?_<;>intro hc<;>(try exact ⟨⟩)
      .exact absurd hc hk14
      .refine Wk (An @hv qGT1.1) (An @hcl (An @hat (An @hcome @hsent))) ?_;refine Cb ?_ ?_<;>intro hc<;>(try exact ⟨⟩)
       .refine Wk (An @hv qGT1.1) (An @hcl (An @hat (An @hcome @hsent))) ?_;refine Cb ?_ ?_<;>intro hc<;>(try exact ⟨⟩)
        .contradiction
        .refine Wk (An @hv qGT1.1) (An @hcl (An @hat (An @hcome @hsent))) ?_;refine Fn @results21 (An @hv qGT1.1) ?_;try exact ⟨⟩
         refine ⟨?_,by (repeat' constructor)⟩;rw[List.set_set];exact upd_row _ _ _ _ (by rw[getD_sV _ _ _ (by simpa using hk),Zt _ _ hk,hv];rfl)
       .contradiction
     .contradiction
    .contradiction
theorem zGT1 {R G:Prop} (k:R) (h:Box R->G:=by
 intro k;simp (disch:=omega) only[↓reduceIte,Zo,backT,pos,idsB,idsC,nodup,live,makeSliceE,viewE,viewFE,appendUE,appendFE,capFE,copyE,copySrc,clearE,guardB,isNilOp,nilS,withTy,splice,lenE,appendE,sliceE,boundE,indexAddrE,indexE,buildE,fillE,buildSliceE,partsE,builtinE,minE,minI,convE,convHE,appendNE,capE,D.x,id_eq,eq_self,if_true,if_false,ne_eq,implies_true,Nat.reduceAdd,Nat.reduceMul,Nat.reduceSub,Nat.reduceEqDiff,Nat.reduceLT,Nat.reduceLeDiff,reduceCtorEq,Yl,Zi,hv,Zp,forall_const,Nat.reduceBEq,Int.reduceEq,Int.reduceToNat,bne_self_eq_false,true_and,tyAll]
 all_goals exact k.out):G:=h ⟨k⟩
theorem toldE_c (g:Gat) (k:Nat) (x:Exe) (v:Ven) (nb:Bk) (w p:Int) (h:gatP g) (hk:k<g.vens.length) (hat:ACall prog 49 [] [gtD g,I k] (B true) []) (hv:g.vens.getD k default=v) (hcome:ACall prog 59 [.row 1 (sR v.bk.ids)] [.e (.a (bkP1 v.bk 0)),xD x] (.t [.a (bkC nb),.c (.v (vI w))]) [.row 1 (sR v.bk.ids)]) (hsent:ACall prog 60 [] [NO.osD v.sent,xD x] (I p) []) (hw:w=1\/w=3) (hk14:x.kind=1\/x.kind=4) (hp:p<0) (hil:v.bk.ids.length<=1000):ACall prog 21 [] [gtD g,I k,xD x] (gres3 (setV g k { v with bk:={ v.bk with ids:=v.bk.ids++[x.id],bad:=2 } }) 3 0) []:=by
 have hcl:=cloneX_c g h k hk;rw[hv]at hcl;refine Ac func21 ?_;refine Wk (An @hv qGT1.1) (An @hcl (An @hat (An @hcome @hsent))) ?_;refine Cb ?_ ?_<;>intro hc<;>(try exact ⟨⟩)
 .contradiction
 .repeat' (first|((fail_if_success clear hK);change AWp _ _ _ _ _ _;first|refine AWp.seq ?_|refine AWp.text (own:=(oF [59,61])) tG_ok (by kernel_rfl) (fun K hK=>?_)|refine AWp.draw (own:=(oF [59,61])) tG_ok mixed (by kernel_rfl) (by kernel_rfl) (fun K hK=>?_)|refine AWp.skip ?_|refine AWp.ret ?_|refine AWp.exit ?_|refine AWp.label ?_|refine AWp.block ?_)|(revert hK;intro hK;first|(with_reducible refine hK _ _ _ ?_;clear hK K)|(with_reducible refine hK _ _ _ ?_ ?_;(focus kernel_rfl);clear hK K)|((with_reducible change CallS _ _ _ _ _ _);(first|refine CallS.of hcl ?_|refine CallS.of hat ?_|refine CallS.of hcome ?_|refine CallS.of hsent ?_|refine CallS.of hdel ?_))|(with_reducible refine And.intro ?_ ?_)|((first|exact zGT1 trivial|refine zGT1 ?_))|(first|omega|(intro hq;(try simp only[Zf,ne_eq,Bool.not_not,Bool.and_true]at hq);first|omega|assumption|(simp_all;done))|(simp_all;done))|(intro (bn:Bool) hbn)))
  refine Cb ?_ ?_<;>intro hc<;>(try exact ⟨⟩)
  .omega
  .refine Wk (An @hv qGT1.1) (An @hcl (An @hat (An @hcome @hsent))) ?_;refine Cb ?_ ?_<;>intro hc<;>(try exact ⟨⟩)
   .omega
   .rcases hw with rfl|rfl
    .refine Wk (An @hv qGT1.1) (An @hcl (An @hat (An @hcome @hsent))) ?_;refine Cb ?_ ?_<;>intro hc<;>(try exact ⟨⟩)
     .refine Wk (An @hv qGT1.1) (An @hcl (An @hat (An @hcome @hsent))) ?_;refine Cb ?_ ?_<;>intro hc<;>(try exact ⟨⟩)
      .refine Wk (An @hv qGT1.1) (An @hcl (An @hat (An @hcome @hsent))) ?_;refine Cb ?_ ?_<;>intro hc<;>(try exact ⟨⟩)
       .refine Wk (An @hv qGT1.1) (An @hcl (An @hat (An @hcome @hsent))) ?_;refine Cb ?_ ?_<;>intro hc<;>(try exact ⟨⟩)
        ·(repeat (first|refine AWp.seq ?_|refine AWp.block ?_|refine AWp.skip ?_));(first|refine AWp.text (own:=(oF [59,61])) tG_ok (by kernel_rfl) (fun K hK=>?_)|refine AWp.draw (own:=(oF [59,61])) tG_ok mixed (by kernel_rfl) (by kernel_rfl) (fun K hK=>?_));(repeat' (revert hK;intro hK;first|(with_reducible refine hK _ _ _ ?_;clear hK K)|(with_reducible refine hK _ _ _ ?_ ?_;(focus kernel_rfl);clear hK K)|((with_reducible change CallS _ _ _ _ _ _);(first|refine CallS.of hcl ?_|refine CallS.of hat ?_|refine CallS.of hcome ?_|refine CallS.of hsent ?_|refine CallS.of hdel ?_))|(with_reducible refine And.intro ?_ ?_)|((first|exact zGT1 trivial|refine zGT1 ?_))|(first|omega|(intro hq;(try simp only[Zf,ne_eq,Bool.not_not,Bool.and_true]at hq);first|omega|assumption|(simp_all;done))|(simp_all;done))|(intro (bn:Bool) hbn)))
         (repeat (first|refine AWp.seq ?_|refine AWp.block ?_|refine AWp.skip ?_));(first|refine AWp.text (own:=(oF [59,61])) tG_ok (by kernel_rfl) (fun K hK=>?_)|refine AWp.draw (own:=(oF [59,61])) tG_ok mixed (by kernel_rfl) (by kernel_rfl) (fun K hK=>?_));(repeat' (revert hK;intro hK;first|(with_reducible refine hK _ _ _ ?_;clear hK K)|(with_reducible refine hK _ _ _ ?_ ?_;(focus kernel_rfl);clear hK K)|((with_reducible change CallS _ _ _ _ _ _);(first|refine CallS.of hcl ?_|refine CallS.of hat ?_|refine CallS.of hcome ?_|refine CallS.of hsent ?_|refine CallS.of hdel ?_))|(with_reducible refine And.intro ?_ ?_)|((first|exact zGT1 trivial|refine zGT1 ?_))|(first|omega|(intro hq;(try simp only[Zf,ne_eq,Bool.not_not,Bool.and_true]at hq);first|omega|assumption|(simp_all;done))|(simp_all;done))|(intro (bn:Bool) hbn)))
         refine AWp.freeze [384] ?_;refine AWp.shut (r:=384) (by exact rfl) (by exact rfl) (by simp) ?_;refine AWp.le (st2:=mkSt [(6,.p 1 0),(9,.p 0 0)] [(0,.loc (gtO g 2)),(1,.loc gzC),(2,.row 8 (vR (g.vens.set k { v with bk:={ v.bk with ids:=v.bk.ids++[x.id],bad:=2 } })))] 3) (by refine Le.of (τ:=[(0,448),(1,128),(2,384)]) (ν:=[]) (by kernel_rfl) ?_ ?_<;>((refine Lw (An @hv qGT1.1) ?_;try exact ⟨⟩);try (first|omega|rfl|exact shut_ids g.vens k v x.id))) ?_;refine Wk (An @hv qGT1.1) (An @hcl (An @hat (An @hcome @hsent))) ?_;refine Fn @results21 (An @hv qGT1.1) ?_;try exact ⟨⟩
         exact ⟨⟨(List.take_of_length_le (by simp[setV])).symm,by simp⟩,by (repeat' constructor)⟩
        .omega
       .omega
      .contradiction
     .contradiction
    .refine Wk (An @hv qGT1.1) (An @hcl (An @hat (An @hcome @hsent))) ?_;refine Cb ?_ ?_<;>intro hc<;>(try exact ⟨⟩)
     .contradiction
     .refine Wk (An @hv qGT1.1) (An @hcl (An @hat (An @hcome @hsent))) ?_;refine Cb ?_ ?_<;>intro hc<;>(try exact ⟨⟩)
      .refine Wk (An @hv qGT1.1) (An @hcl (An @hat (An @hcome @hsent))) ?_;refine Cb ?_ ?_<;>intro hc<;>(try exact ⟨⟩)
       .refine Wk (An @hv qGT1.1) (An @hcl (An @hat (An @hcome @hsent))) ?_;refine Cb ?_ ?_<;>intro hc<;>(try exact ⟨⟩)
        ·(repeat (first|refine AWp.seq ?_|refine AWp.block ?_|refine AWp.skip ?_));(first|refine AWp.text (own:=(oF [59,61])) tG_ok (by kernel_rfl) (fun K hK=>?_)|refine AWp.draw (own:=(oF [59,61])) tG_ok mixed (by kernel_rfl) (by kernel_rfl) (fun K hK=>?_));(repeat' (revert hK;intro hK;first|(with_reducible refine hK _ _ _ ?_;clear hK K)|(with_reducible refine hK _ _ _ ?_ ?_;(focus kernel_rfl);clear hK K)|((with_reducible change CallS _ _ _ _ _ _);(first|refine CallS.of hcl ?_|refine CallS.of hat ?_|refine CallS.of hcome ?_|refine CallS.of hsent ?_|refine CallS.of hdel ?_))|(with_reducible refine And.intro ?_ ?_)|((first|exact zGT1 trivial|refine zGT1 ?_))|(first|omega|(intro hq;(try simp only[Zf,ne_eq,Bool.not_not,Bool.and_true]at hq);first|omega|assumption|(simp_all;done))|(simp_all;done))|(intro (bn:Bool) hbn)))
         (repeat (first|refine AWp.seq ?_|refine AWp.block ?_|refine AWp.skip ?_));(first|refine AWp.text (own:=(oF [59,61])) tG_ok (by kernel_rfl) (fun K hK=>?_)|refine AWp.draw (own:=(oF [59,61])) tG_ok mixed (by kernel_rfl) (by kernel_rfl) (fun K hK=>?_));(repeat' (revert hK;intro hK;first|(with_reducible refine hK _ _ _ ?_;clear hK K)|(with_reducible refine hK _ _ _ ?_ ?_;(focus kernel_rfl);clear hK K)|((with_reducible change CallS _ _ _ _ _ _);(first|refine CallS.of hcl ?_|refine CallS.of hat ?_|refine CallS.of hcome ?_|refine CallS.of hsent ?_|refine CallS.of hdel ?_))|(with_reducible refine And.intro ?_ ?_)|((first|exact zGT1 trivial|refine zGT1 ?_))|(first|omega|(intro hq;(try simp only[Zf,ne_eq,Bool.not_not,Bool.and_true]at hq);first|omega|assumption|(simp_all;done))|(simp_all;done))|(intro (bn:Bool) hbn)))
         refine AWp.freeze [384] ?_;refine AWp.shut (r:=384) (by exact rfl) (by exact rfl) (by simp) ?_;refine AWp.le (st2:=mkSt [(6,.p 1 0),(9,.p 0 0)] [(0,.loc (gtO g 2)),(1,.loc gzC),(2,.row 8 (vR (g.vens.set k { v with bk:={ v.bk with ids:=v.bk.ids++[x.id],bad:=2 } })))] 3) (by refine Le.of (τ:=[(0,448),(1,128),(2,384)]) (ν:=[]) (by kernel_rfl) ?_ ?_<;>((refine Lw (An @hv qGT1.1) ?_;try exact ⟨⟩);try (first|omega|rfl|exact shut_ids g.vens k v x.id))) ?_;refine Wk (An @hv qGT1.1) (An @hcl (An @hat (An @hcome @hsent))) ?_;refine Fn @results21 (An @hv qGT1.1) ?_;try exact ⟨⟩
         exact ⟨⟨(List.take_of_length_le (by simp[setV])).symm,by simp⟩,by (repeat' constructor)⟩
        .omega
       .omega
      .contradiction
theorem toldD_c (g:Gat) (k:Nat) (x:Exe) (v:Ven) (nb:Bk) (w p:Int) (h:gatP g) (hk:k<g.vens.length) (hat:ACall prog 49 [] [gtD g,I k] (B true) []) (hv:g.vens.getD k default=v) (hcome:ACall prog 59 [.row 1 (sR v.bk.ids)] [.e (.a (bkP1 v.bk 0)),xD x] (.t [.a (bkC nb),.c (.v (vI w))]) [.row 1 (sR v.bk.ids)]) (hsent:ACall prog 60 [] [NO.osD v.sent,xD x] (I p) []) (hw:w=1) (hk14:x.kind=1\/x.kind=4) (i:Nat) (hp:p=i) (hi:i<v.sent.length) (hsl:v.sent.length<=1000):ACall prog 21 [] [gtD g,I k,xD x] (gres3 (setV g k { v with bk:=nb,last:=g.now,sent:=v.sent.eraseIdx i }) 1 0) []:=by
 have hcl:=cloneX_c g h k hk;rw[hv]at hcl;have hdel:=deleteO_c v.sent i hi (by omega);subst hw;subst hp;refine Ac func21 ?_;refine Wk (An @hv qGT1.1) (An @hcl (An @hat (An @hcome (An @hsent @hdel)))) ?_;refine Cb ?_ ?_<;>intro hc<;>(try exact ⟨⟩)
 .contradiction
 .repeat' (first|((fail_if_success clear hK);change AWp _ _ _ _ _ _;first|refine AWp.seq ?_|refine AWp.text (own:=(oF [59,61])) tG_ok (by kernel_rfl) (fun K hK=>?_)|refine AWp.draw (own:=(oF [59,61])) tG_ok mixed (by kernel_rfl) (by kernel_rfl) (fun K hK=>?_)|refine AWp.skip ?_|refine AWp.ret ?_|refine AWp.exit ?_|refine AWp.label ?_|refine AWp.block ?_)|(revert hK;intro hK;first|(with_reducible refine hK _ _ _ ?_;clear hK K)|(with_reducible refine hK _ _ _ ?_ ?_;(focus kernel_rfl);clear hK K)|((with_reducible change CallS _ _ _ _ _ _);(first|refine CallS.of hcl ?_|refine CallS.of hat ?_|refine CallS.of hcome ?_|refine CallS.of hsent ?_|refine CallS.of hdel ?_))|(with_reducible refine And.intro ?_ ?_)|((first|exact zGT1 trivial|refine zGT1 ?_))|(first|omega|(intro hq;(try simp only[Zf,ne_eq,Bool.not_not,Bool.and_true]at hq);first|omega|assumption|(simp_all;done))|(simp_all;done))|(intro (bn:Bool) hbn)))
  refine Cb ?_ ?_<;>intro hc<;>(try exact ⟨⟩)
  .contradiction
  .refine Wk (An @hv qGT1.1) (An @hcl (An @hat (An @hcome (An @hsent @hdel)))) ?_;refine Cb ?_ ?_<;>intro hc<;>(try exact ⟨⟩)
   .contradiction
   .refine Wk (An @hv qGT1.1) (An @hcl (An @hat (An @hcome (An @hsent @hdel)))) ?_;refine Cb ?_ ?_<;>intro hc<;>(try exact ⟨⟩)
    .refine Wk (An @hv qGT1.1) (An @hcl (An @hat (An @hcome (An @hsent @hdel)))) ?_;refine Cb ?_ ?_<;>intro hc<;>(try exact ⟨⟩)
     .refine Wk (An @hv qGT1.1) (An @hcl (An @hat (An @hcome (An @hsent @hdel)))) ?_;refine Cb ?_ ?_<;>intro hc<;>(try exact ⟨⟩)
      .refine Wk (An @hv qGT1.1) (An @hcl (An @hat (An @hcome (An @hsent @hdel)))) ?_;refine Cb ?_ ?_<;>intro hc<;>(try exact ⟨⟩)
       .omega
       .refine Wk (An @hv qGT1.1) (An @hcl (An @hat (An @hcome (An @hsent @hdel)))) ?_;refine Cb ?_ ?_<;>intro hc<;>(try exact ⟨⟩)
        .refine Wk (An @hv qGT1.1) (An @hcl (An @hat (An @hcome (An @hsent @hdel)))) ?_;refine Cb ?_ ?_<;>intro hc<;>(try exact ⟨⟩)
         ·(repeat (first|refine AWp.seq ?_|refine AWp.block ?_|refine AWp.skip ?_));(first|refine AWp.text (own:=(oF [59,61])) tG_ok (by kernel_rfl) (fun K hK=>?_)|refine AWp.draw (own:=(oF [59,61])) tG_ok mixed (by kernel_rfl) (by kernel_rfl) (fun K hK=>?_));(repeat' (revert hK;intro hK;first|(with_reducible refine hK _ _ _ ?_;clear hK K)|(with_reducible refine hK _ _ _ ?_ ?_;(focus kernel_rfl);clear hK K)|((with_reducible change CallS _ _ _ _ _ _);(first|refine CallS.of hcl ?_|refine CallS.of hat ?_|refine CallS.of hcome ?_|refine CallS.of hsent ?_|refine CallS.of hdel ?_))|(with_reducible refine And.intro ?_ ?_)|((first|exact zGT1 trivial|refine zGT1 ?_))|(first|omega|(intro hq;(try simp only[Zf,ne_eq,Bool.not_not,Bool.and_true]at hq);first|omega|assumption|(simp_all;done))|(simp_all;done))|(intro (bn:Bool) hbn)))
          refine AWp.freeze [384] ?_;refine AWp.shut (r:=384) (by exact rfl) (by exact rfl) (by have hle:=List.length_eraseIdx_of_lt hi;simp;omega) ?_;refine AWp.le (st2:=mkSt [(6,.p 1 0),(9,.p 0 0),(12,I 1)] [(0,.loc (gtO g 2)),(1,.loc gzC),(2,.row 8 (vR (g.vens.set k { v with bk:=nb,last:=g.now,sent:=v.sent.eraseIdx i })))] 3) (by refine Le.of (τ:=[(0,448),(1,128),(2,384)]) (ν:=[]) (by kernel_rfl) ?_ ?_<;>((refine Lw (An @hv qGT1.1) ?_;try exact ⟨⟩);try (first|omega|rfl|exact shut_del g.vens k v nb g.now i hi))) ?_;refine Wk (An @hv qGT1.1) (An @hcl (An @hat (An @hcome (An @hsent @hdel)))) ?_;refine Fn @results21 (An @hv qGT1.1) ?_;try exact ⟨⟩
          exact ⟨⟨(List.take_of_length_le (by simp[setV])).symm,by simp⟩,by (repeat' constructor)⟩
         .omega
        .contradiction
      .omega
     .contradiction
    .contradiction
theorem told_c (g:Gat) (at_:Int) (x:Exe) (h:gatP g) (r:Gat×Int×Int) (hr:toldG g at_ x=r):ACall prog 21 [] [gtD g,I at_,xD x] (gres3 r.1 r.2.1 r.2.2) []:=by
 unfold toldG at hr;by_cases ha:isAt g at_
 .obtain ⟨k,rfl,hk⟩:=at_nat ha;have hat:=isAt_c g k h true (decide_eq_true ha);have hp:=h.vens _ (Ya hk);have hroom:=hp.room;have hil:=hp.bk.il;have hvk:vat g k=g.vens.getD k default:=rfl;rw[hvk]at hr;generalize hv:g.vens.getD k default=v at hr hp hroom hil;have hcome:=come_c v.bk x hp.bk _ rfl;have hcome2:=come2_c v.bk x hp.bk _ rfl;have hsent:=sent_c v.sent x (by omega) _ rfl;have hsl:sentI v.sent x<v.sent.length:=(fstI_lt (sentP x) v.sent).2;unfold comeS at hcome hcome2
  cases hx:exB x with
  | false =>
   rw[if_pos (.inr hx)]at hr;rw[if_neg (by rw[hx];decide)]at hcome;subst hr
   exact told0_c g k x v _ _ _ h hk hat hv hcome hsent rfl
  | true =>
   rw[if_neg (fun hh=>hh.elim (fun n=>n ha) (fun n=>by rw[hx]at n;cases n))]at hr;rw[if_pos hx]at hcome hcome2;have hrng:=take_rng v.bk x;by_cases h24:(takeS v.bk x).2=2\/(takeS v.bk x).2=4
   .rw[if_pos h24]at hr;subst hr;exact toldA_c g k x v _ _ _ h hk hat hv hcome hsent h24
   .rw[if_neg h24]at hr;by_cases hk14:x.kind=1\/x.kind=4
    .by_cases hp0:sentI v.sent x<0
     .rw[if_pos ⟨hk14,hp0⟩]at hr;subst hr;exact toldE_c g k x v _ _ _ h hk hat hv hcome2 hsent (by omega) hk14 hp0 (by omega)
     .rw[if_neg (fun hh=>hp0 hh.2)]at hr;by_cases h1:(takeS v.bk x).2=1
      .rw[if_pos h1,if_pos hk14]at hr;subst hr;exact toldD_c g k x v _ _ _ h hk hat hv hcome2 hsent h1 hk14 (sentI v.sent x).toNat (by omega) (by omega) (by omega)
      .rw[if_neg h1]at hr;subst hr;exact toldB_c g k x v _ _ _ h hk hat hv hcome hsent (by omega) (fun _=>by omega)
    .rw[if_neg (fun hh=>hk14 hh.1)]at hr;by_cases h1:(takeS v.bk x).2=1
     .rw[if_pos h1,if_neg hk14]at hr;subst hr;exact toldC_c g k x v _ _ _ h hk hat hv hcome hsent h1 hk14
     .rw[if_neg h1]at hr;subst hr;exact toldB_c g k x v _ _ _ h hk hat hv hcome hsent (by omega) (fun hh=>absurd hh hk14)
 .have hat:=isAt_c g at_ h false (decide_eq_false ha);rw[if_pos (.inl ha)]at hr;subst hr;have hcl:=clone_c g h;refine Ac func21 ?_;refine Wk qGT1.1 (An @hcl @hat) ?_;refine Cb ?_ ?_<;>intro hc<;>(try exact ⟨⟩)
  .refine Wk qGT1.1 (An @hcl @hat) ?_;refine Fn @results21 qGT1.1 ?_;try exact ⟨⟩
  .contradiction
def qGJ1:=PLift.up (An @Yl @Zi)
theorem change_c (g:Gat) (at_:Int) (old id:ByteArray) (q p:Int) (h:gatP g) (r:Gat×Int×Int) (hr:changeG g at_ old id q p=r):ACall prog 92 [] [gtD g,I at_,StD old,StD id,I q,I p] (gres3 r.1 r.2.1 r.2.2) []:=by
 unfold changeG at hr;by_cases ha:isAt g at_
 .obtain ⟨k,rfl,hk⟩:=at_nat ha;have hat:=isAt_c g k h true (decide_eq_true ha);have hp:=h.vens _ (Ya hk);have hroom:=hp.room;have hwhyL:=fun o=>why_c g k o h hk;have hclX:=cloneX_c g h k hk;have hvk:vat g k=g.vens.getD k default:=rfl;rw[if_neg (fun n=>n ha),hvk]at hr;have e0:((k:Int)).toNat=k:=rfl;rw[e0]at hr;generalize hv:g.vens.getD k default=v at hr hp hroom hclX;obtain ⟨⟨o,ob⟩,hF⟩:∃y,NO.findS v.bk.ords old=y:=⟨_,rfl⟩
  have hfind:=NO.find_c v.bk.ords old _ hF (by omega);rw[hF]at hr;dsimp only at hr hfind;by_cases hno:ob=false\/o.op=false
  .rw[if_pos hno]at hr;subst hr;have hcl:=clone_c g h;refine Ac func92 ?_;refine Wk (An @hv qGJ1.1) (An @hcl (An @hat @hfind)) ?_;refine Cb ?_ ?_<;>intro hc<;>(try exact ⟨⟩)
   .contradiction
   .refine Wk (An @hv qGJ1.1) (An @hcl (An @hat @hfind)) ?_;refine Cb ?_ ?_<;>intro hc<;>(try exact ⟨⟩)
    .refine Wk (An @hv qGJ1.1) (An @hcl (An @hat @hfind)) ?_;refine Fn @results92 (An @hv qGJ1.1) ?_;try exact ⟨⟩
    .exfalso;rcases hno with hno|hno<;>(rw[hno]at hc;simp at hc)
  .rw[if_neg hno]at hr;simp only[not_or,Bool.not_eq_false]at hno;obtain ⟨hob,hop⟩:=hno;subst hob;have hmay:=NO.may_c (chgO o id q p)
   cases hm:NO.mayB (chgO o id q p) with
   | false =>
    rw[if_pos hm]at hr;rw[hm]at hmay;subst hr;have hcl:=clone_c g h;refine Ac func92 ?_;refine Wk (An @hv qGJ1.1) (An @hcl (An @hat (An @hfind @hmay))) ?_;refine Cb ?_ ?_<;>intro hc<;>(try exact ⟨⟩)
    .contradiction
    .refine Wk (An @hv qGJ1.1) (An @hcl (An @hat (An @hfind @hmay))) ?_;refine Cb ?_ ?_<;>intro hc<;>(try exact ⟨⟩)
     .exfalso;rw[hop]at hc;simp at hc
     .refine Wk (An @hv qGJ1.1) (An @hcl (An @hat (An @hfind @hmay))) ?_;refine Cb ?_ ?_<;>intro hc<;>(try exact ⟨⟩)
      .refine Wk (An @hv qGJ1.1) (An @hcl (An @hat (An @hfind @hmay))) ?_;refine Fn @results92 (An @hv qGJ1.1) ?_;try exact ⟨⟩
      .contradiction
   | true =>
    rw[if_neg (by rw[hm];decide)]at hr;rw[hm]at hmay;have hs:=NO.mayB_spec hm;have hs1:(0<=q/\q<=1099511627776)/\(0<=p/\p<=1099511627776)/\0<=o.done/\o.done<=q:=hs;have hb1:=Zn (q - o.done) (by omega) (by omega);have hkn:=known_c v id (by omega) (by omega) _ rfl
    cases hknb:knownV v id with
    | true =>
     rw[if_pos hknb]at hr;rw[hknb]at hkn;subst hr;have hcl:=clone_c g h;refine Ac func92 ?_;refine Wk (An @hv (An @hb1 qGJ1.1)) (An @hcl (An @hat (An @hfind (An @hmay @hkn)))) ?_;refine Cb ?_ ?_<;>intro hc<;>(try exact ⟨⟩)
     .contradiction
     .refine Wk (An @hv (An @hb1 qGJ1.1)) (An @hcl (An @hat (An @hfind (An @hmay @hkn)))) ?_;refine Cb ?_ ?_<;>intro hc<;>(try exact ⟨⟩)
      .exfalso;rw[hop]at hc;simp at hc
      .refine Wk (An @hv (An @hb1 qGJ1.1)) (An @hcl (An @hat (An @hfind (An @hmay @hkn)))) ?_;refine Cb ?_ ?_<;>intro hc<;>(try exact ⟨⟩)
       .contradiction
       .refine Wk (An @hv (An @hb1 qGJ1.1)) (An @hcl (An @hat (An @hfind (An @hmay @hkn)))) ?_;refine Cb ?_ ?_<;>intro hc<;>(try exact ⟨⟩)
        .refine Wk (An @hv (An @hb1 qGJ1.1)) (An @hcl (An @hat (An @hfind (An @hmay @hkn)))) ?_;refine Fn @results92 (An @hv (An @hb1 qGJ1.1)) ?_;try exact ⟨⟩
        .contradiction
    | false =>
     rw[if_neg (by rw[hknb];decide)]at hr;rw[hknb]at hkn;have hwhy:=hwhyL (morO (chgO o id q p));by_cases hw:whyG g k (morO (chgO o id q p))=0
     .rw[if_neg (fun n=>n hw)]at hr;rw[hw]at hwhy;subst hr;have hcl:=hclX;refine Ac func92 ?_;refine Wk (An @hv (An @hb1 qGJ1.1)) (An @hcl (An @hat (An @hfind (An @hmay (An @hkn @hwhy))))) ?_;refine Cb ?_ ?_<;>intro hc<;>(try exact ⟨⟩)
      .contradiction
      .refine Wk (An @hv (An @hb1 qGJ1.1)) (An @hcl (An @hat (An @hfind (An @hmay (An @hkn @hwhy))))) ?_;refine Cb ?_ ?_<;>intro hc<;>(try exact ⟨⟩)
       .exfalso;rw[hop]at hc;simp at hc
       .refine Wk (An @hv (An @hb1 qGJ1.1)) (An @hcl (An @hat (An @hfind (An @hmay (An @hkn @hwhy))))) ?_;refine Cb ?_ ?_<;>intro hc<;>(try exact ⟨⟩)
        .contradiction
        .refine Wk (An @hv (An @hb1 qGJ1.1)) (An @hcl (An @hat (An @hfind (An @hmay (An @hkn @hwhy))))) ?_;refine Cb ?_ ?_<;>intro hc<;>(try exact ⟨⟩)
         .contradiction
         .refine Wk (An @hv (An @hb1 qGJ1.1)) (An @hcl (An @hat (An @hfind (An @hmay (An @hkn @hwhy))))) ?_;refine Cb ?_ ?_<;>intro hc<;>(try exact ⟨⟩)
          .contradiction
          ·(repeat (first|refine AWp.seq ?_|refine AWp.block ?_|refine AWp.skip ?_));(first|refine AWp.text (own:=nO) tG_ok (by kernel_rfl) (fun K hK=>?_)|refine AWp.draw (own:=nO) tG_ok mixed (by kernel_rfl) (by kernel_rfl) (fun K hK=>?_));(repeat' (revert hK;intro hK;first|(with_reducible refine hK _ _ _ ?_;clear hK K)|(with_reducible refine hK _ _ _ ?_ ?_;(focus kernel_rfl);clear hK K)|((with_reducible change CallS _ _ _ _ _ _);(first|refine CallS.of hcl ?_|refine CallS.of hat ?_|refine CallS.of hfind ?_|refine CallS.of hmay ?_|refine CallS.of hkn ?_|refine CallS.of hwhy ?_))|(with_reducible refine And.intro ?_ ?_)|(simp (disch:=omega) only[↓reduceIte,Zo,backT,pos,idsB,idsC,nodup,live,makeSliceE,viewE,viewFE,appendUE,appendFE,capFE,copyE,copySrc,clearE,guardB,isNilOp,nilS,withTy,splice,lenE,appendE,sliceE,boundE,indexAddrE,indexE,buildE,fillE,buildSliceE,partsE,builtinE,minE,minI,convE,convHE,appendNE,capE,D.x,id_eq,eq_self,if_true,if_false,ne_eq,implies_true,Nat.reduceAdd,Nat.reduceMul,Nat.reduceSub,Nat.reduceEqDiff,Nat.reduceLT,Nat.reduceLeDiff,reduceCtorEq,Yl,Zi,hv,hb1,Zp,forall_const,Nat.reduceBEq,Int.reduceEq,Int.reduceToNat,bne_self_eq_false,true_and,tyAll])|(first|omega|(intro hq;(try simp only[Zf,ne_eq,Bool.not_not,Bool.and_true]at hq);first|omega|assumption|(simp_all;done))|(simp_all;done))|(intro (bn:Bool) hbn)))
           refine AWp.freeze [320] ?_;refine AWp.shut (r:=320) (by exact rfl) (by exact rfl) (by simp) ?_;refine AWp.le (st2:=mkSt [(12,.p 1 0),(15,.p 0 0)] [(0,.loc (gtO g 2)),(1,.loc gzC),(2,.row 8 (vR (g.vens.set k { v with sent:=v.sent++[chgO o id q p] })))] 3) (by refine Le.of (τ:=[(0,384),(1,64),(2,320)]) (ν:=[]) (by kernel_rfl) ?_ ?_<;>((refine Lw (An @hv (An @hb1 qGJ1.1)) ?_;try exact ⟨⟩);try (first|omega|rfl|exact (set_vR _ _ _).trans (congrArg (fun x=>(vR g.vens).set k [NO.osV v.bk.ords,fsV v.bk.fills,ssV v.bk.ids,vI v.bk.clock,vI v.bk.bad,V.s 8 x,vI v.last,vB v.gap]) (NO.app_row0 v.sent (chgO o id q p)).1)))) ?_;refine Wk (An @hv (An @hb1 qGJ1.1)) (An @hcl (An @hat (An @hfind (An @hmay (An @hkn @hwhy))))) ?_;refine Fn @results92 (An @hv (An @hb1 qGJ1.1)) ?_;try exact ⟨⟩
           exact ⟨⟨(List.take_of_length_le (by simp[setV])).symm,by simp⟩,by (repeat' constructor)⟩
     .rw[if_pos hw]at hr;subst hr;have hcl:=clone_c g h;refine Ac func92 ?_;refine Wk (An @hv (An @hb1 qGJ1.1)) (An @hcl (An @hat (An @hfind (An @hmay (An @hkn @hwhy))))) ?_;refine Cb ?_ ?_<;>intro hc<;>(try exact ⟨⟩)
      .contradiction
      .refine Wk (An @hv (An @hb1 qGJ1.1)) (An @hcl (An @hat (An @hfind (An @hmay (An @hkn @hwhy))))) ?_;refine Cb ?_ ?_<;>intro hc<;>(try exact ⟨⟩)
       .exfalso;rw[hop]at hc;simp at hc
       .refine Wk (An @hv (An @hb1 qGJ1.1)) (An @hcl (An @hat (An @hfind (An @hmay (An @hkn @hwhy))))) ?_;refine Cb ?_ ?_<;>intro hc<;>(try exact ⟨⟩)
        .contradiction
        .refine Wk (An @hv (An @hb1 qGJ1.1)) (An @hcl (An @hat (An @hfind (An @hmay (An @hkn @hwhy))))) ?_;refine Cb ?_ ?_<;>intro hc<;>(try exact ⟨⟩)
         .contradiction
         .refine Wk (An @hv (An @hb1 qGJ1.1)) (An @hcl (An @hat (An @hfind (An @hmay (An @hkn @hwhy))))) ?_;refine Cb ?_ ?_<;>intro hc<;>(try exact ⟨⟩)
          .refine Wk (An @hv (An @hb1 qGJ1.1)) (An @hcl (An @hat (An @hfind (An @hmay (An @hkn @hwhy))))) ?_;refine Fn @results92 (An @hv (An @hb1 qGJ1.1)) ?_;try exact ⟨⟩
          .exact absurd hc hw
 .have hat:=isAt_c g at_ h false (decide_eq_false ha);rw[if_pos ha]at hr;subst hr;have hcl:=clone_c g h;refine Ac func92 ?_;refine Wk qGJ1.1 (An @hcl @hat) ?_;refine Cb ?_ ?_<;>intro hc<;>(try exact ⟨⟩)
  .refine Wk qGJ1.1 (An @hcl @hat) ?_;refine Fn @results92 qGJ1.1 ?_;try exact ⟨⟩
  .contradiction
noncomputable def askG (g:Gat) (a:Ask):Gat×Int×Int :=
 if a.kind=1 then orderG g a.ven a.o
 else if a.kind=2 then changeG g a.ven a.id a.o.id a.o.qty a.o.price
 else if a.kind=3 then toldG g a.ven a.x
 else if a.kind=4 then ((tickG g a.now).1,0,(tickG g a.now).2)
 else if a.kind=5 then ((killG g a.on).1,0,(killG g a.on).2)
 else if a.kind=6 then ((gapG g a.ven a.on).1,0,(gapG g a.ven a.on).2)
 else if a.kind=7 then ((resetG g a.ven).1,0,(resetG g a.ven).2)
 else if a.kind=8 then ((limitG g a.l).1,0,(limitG g a.l).2)
 else (g,0,1)
theorem ask_right {g:Gat} {a:Ask} (h:gatP g):gatP (askG g a).1:=by
 unfold askG
 split
 .exact order_right h
 .split
  .exact change_right h
  .split
   .exact told_right h
   .split
    .exact tick_right h
    .split
     .exact kill_right h
     .split
      .exact gap_right h
      .split
       .exact reset_right h
       .split
        .exact limit_right h
        .exact h
theorem ask_c (g:Gat) (a:Ask) (h:gatP g) (r:Gat×Int×Int) (hr:askG g a=r):ACall prog 33 [] [gtD g,aD a] (gres3 r.1 r.2.1 r.2.2) []:=by
 have h1:=order_c g a.ven a.o h _ rfl;have h2:=change_c g a.ven a.id a.o.id a.o.qty a.o.price h _ rfl;have h3:=told_c g a.ven a.x h _ rfl;have h4:=tick_c g a.now h _ rfl;have h5:=kill_c g a.on h;have h6:=gap_c g a.ven a.on h _ rfl;have h7:=reset_c g a.ven h _ rfl;have h8:=limit_c g a.l h _ rfl;unfold askG at hr;refine Ac func33 ?_;refine Wk trivial (An @h1 (An @h2 (An @h3 (An @h4 (An @h5 (An @h6 (An @h7 @h8))))))) ?_;refine Cb ?_ ?_<;>intro hc<;>(try exact ⟨⟩)
 .rw[if_pos hc]at hr;subst hr;refine Wk trivial (An @h1 (An @h2 (An @h3 (An @h4 (An @h5 (An @h6 (An @h7 @h8))))))) ?_;refine Fn @results33 trivial ?_;try exact ⟨⟩
 .rw[if_neg hc]at hr;refine Wk trivial (An @h1 (An @h2 (An @h3 (An @h4 (An @h5 (An @h6 (An @h7 @h8))))))) ?_;refine Cb ?_ ?_<;>intro hc<;>(try exact ⟨⟩)
  .rw[if_pos hc]at hr;subst hr;refine Wk trivial (An @h1 (An @h2 (An @h3 (An @h4 (An @h5 (An @h6 (An @h7 @h8))))))) ?_;refine Fn @results33 trivial ?_;try exact ⟨⟩
  .rw[if_neg hc]at hr;refine Wk trivial (An @h1 (An @h2 (An @h3 (An @h4 (An @h5 (An @h6 (An @h7 @h8))))))) ?_;refine Cb ?_ ?_<;>intro hc<;>(try exact ⟨⟩)
   .rw[if_pos hc]at hr;subst hr;refine Wk trivial (An @h1 (An @h2 (An @h3 (An @h4 (An @h5 (An @h6 (An @h7 @h8))))))) ?_;refine Fn @results33 trivial ?_;try exact ⟨⟩
   .rw[if_neg hc]at hr;refine Wk trivial (An @h1 (An @h2 (An @h3 (An @h4 (An @h5 (An @h6 (An @h7 @h8))))))) ?_;refine Cb ?_ ?_<;>intro hc<;>(try exact ⟨⟩)
    .rw[if_pos hc]at hr;subst hr;refine Wk trivial (An @h1 (An @h2 (An @h3 (An @h4 (An @h5 (An @h6 (An @h7 @h8))))))) ?_;refine Fn @results33 trivial ?_;try exact ⟨⟩
    .rw[if_neg hc]at hr;refine Wk trivial (An @h1 (An @h2 (An @h3 (An @h4 (An @h5 (An @h6 (An @h7 @h8))))))) ?_;refine Cb ?_ ?_<;>intro hc<;>(try exact ⟨⟩)
     .rw[if_pos hc]at hr;subst hr;refine Wk trivial (An @h1 (An @h2 (An @h3 (An @h4 (An @h5 (An @h6 (An @h7 @h8))))))) ?_;refine Fn @results33 trivial ?_;try exact ⟨⟩
     .rw[if_neg hc]at hr;refine Wk trivial (An @h1 (An @h2 (An @h3 (An @h4 (An @h5 (An @h6 (An @h7 @h8))))))) ?_;refine Cb ?_ ?_<;>intro hc<;>(try exact ⟨⟩)
      .rw[if_pos hc]at hr;subst hr;refine Wk trivial (An @h1 (An @h2 (An @h3 (An @h4 (An @h5 (An @h6 (An @h7 @h8))))))) ?_;refine Fn @results33 trivial ?_;try exact ⟨⟩
      .rw[if_neg hc]at hr;refine Wk trivial (An @h1 (An @h2 (An @h3 (An @h4 (An @h5 (An @h6 (An @h7 @h8))))))) ?_;refine Cb ?_ ?_<;>intro hc<;>(try exact ⟨⟩)
       .rw[if_pos hc]at hr;subst hr;refine Wk trivial (An @h1 (An @h2 (An @h3 (An @h4 (An @h5 (An @h6 (An @h7 @h8))))))) ?_;refine Fn @results33 trivial ?_;try exact ⟨⟩
       .rw[if_neg hc]at hr;refine Wk trivial (An @h1 (An @h2 (An @h3 (An @h4 (An @h5 (An @h6 (An @h7 @h8))))))) ?_;refine Cb ?_ ?_<;>intro hc<;>(try exact ⟨⟩)
        .rw[if_pos hc]at hr;subst hr;refine Wk trivial (An @h1 (An @h2 (An @h3 (An @h4 (An @h5 (An @h6 (An @h7 @h8))))))) ?_;refine Fn @results33 trivial ?_;try exact ⟨⟩
        .rw[if_neg hc]at hr;refine Wk trivial (An @h1 (An @h2 (An @h3 (An @h4 (An @h5 (An @h6 (An @h7 @h8))))))) ?_;subst hr;refine Fn @results33 trivial ?_;try exact ⟨⟩
theorem ven_c (n:Int) (r:Bool) (hr:venB n=r):ACall prog 143 [] [I n] (B r) []:=hr ▸ isVenue_c n
theorem mex_c (x:Exe) (r:Bool) (hr:exB x=r):ACall prog 20 [] [xD x] (B r) []:=NS.ex_c (exM x) r hr
theorem kmay_c (a:Ask) (r:Bool) (hr:mayK a=r):ACall prog 89 [] [aD a] (B r) []:=by
 unfold mayK at hr;refine Ac func89 ?_;refine Wk trivial trivial ?_;refine Cb ?_ ?_<;>intro hc<;>(try exact ⟨⟩)
 .rw[if_pos hc]at hr;cases eh0:venB a.ven
  .have h0:=ven_c a.ven _ eh0;simp only[eh0,Bool.true_and,Bool.false_and,Bool.and_true,Bool.and_false]at hr;subst hr;refine Wk trivial @h0 ?_;refine Fn @results89 trivial ?_;try exact ⟨⟩
  .have h0:=ven_c a.ven _ eh0;cases eh1:[a.o.id,a.o.acc,a.o.sym].all NS.nameB
   .have h1:=names_c [a.o.id,a.o.acc,a.o.sym] (by simp) _ eh1;simp only[eh0,eh1,Bool.true_and,Bool.false_and,Bool.and_true,Bool.and_false]at hr;subst hr;refine Wk trivial (An @h0 @h1) ?_;refine Fn @results89 trivial ?_;try exact ⟨⟩
   .have h1:=names_c [a.o.id,a.o.acc,a.o.sym] (by simp) _ eh1;cases eh2:[a.o.qty,a.o.price].all numB
    .have h2:=numbers_c [a.o.qty,a.o.price] (by simp) _ eh2;simp only[eh0,eh1,eh2,Bool.true_and,Bool.false_and,Bool.and_true,Bool.and_false]at hr;subst hr;refine Wk trivial (An @h0 (An @h1 @h2)) ?_;refine Fn @results89 trivial ?_;try exact ⟨⟩
    .have h2:=numbers_c [a.o.qty,a.o.price] (by simp) _ eh2;simp only[eh0,eh1,eh2,Bool.true_and,Bool.false_and,Bool.and_true,Bool.and_false]at hr;subst hr;refine Wk trivial (An @h0 (An @h1 @h2)) ?_;refine Fn @results89 trivial ?_;try exact ⟨⟩
 .rw[if_neg hc]at hr;refine Wk trivial trivial ?_;refine Cb ?_ ?_<;>intro hc<;>(try exact ⟨⟩)
  .rw[if_pos hc]at hr;cases eh0:venB a.ven
   .have h0:=ven_c a.ven _ eh0;simp only[eh0,Bool.true_and,Bool.false_and,Bool.and_true,Bool.and_false]at hr;subst hr;refine Wk trivial @h0 ?_;refine Fn @results89 trivial ?_;try exact ⟨⟩
   .have h0:=ven_c a.ven _ eh0;cases eh1:[a.id,a.o.id].all NS.nameB
    .have h1:=names_c [a.id,a.o.id] (by simp) _ eh1;simp only[eh0,eh1,Bool.true_and,Bool.false_and,Bool.and_true,Bool.and_false]at hr;subst hr;refine Wk trivial (An @h0 @h1) ?_;refine Fn @results89 trivial ?_;try exact ⟨⟩
    .have h1:=names_c [a.id,a.o.id] (by simp) _ eh1;cases eh2:[a.o.qty,a.o.price].all numB
     .have h2:=numbers_c [a.o.qty,a.o.price] (by simp) _ eh2;simp only[eh0,eh1,eh2,Bool.true_and,Bool.false_and,Bool.and_true,Bool.and_false]at hr;subst hr;refine Wk trivial (An @h0 (An @h1 @h2)) ?_;refine Fn @results89 trivial ?_;try exact ⟨⟩
     .have h2:=numbers_c [a.o.qty,a.o.price] (by simp) _ eh2;simp only[eh0,eh1,eh2,Bool.true_and,Bool.false_and,Bool.and_true,Bool.and_false]at hr;subst hr;refine Wk trivial (An @h0 (An @h1 @h2)) ?_;refine Fn @results89 trivial ?_;try exact ⟨⟩
  .rw[if_neg hc]at hr;refine Wk trivial trivial ?_;refine Cb ?_ ?_<;>intro hc<;>(try exact ⟨⟩)
   .rw[if_pos hc]at hr;have h0:=isVenue_c a.ven;have h1:=mex_c a.x _ rfl;have hr:(venB a.ven && exB a.x)=r:=hr;subst hr;refine Wk trivial (An @h0 @h1) ?_;refine Fn @results89 trivial ?_;try exact ⟨⟩
   .rw[if_neg hc]at hr;refine Wk trivial trivial ?_;refine Cb ?_ ?_<;>intro hc<;>(try exact ⟨⟩)
    .rw[if_pos hc]at hr;cases eh1:[a.now].all numB
     .have h1:=numbers_c [a.now] (by simp) _ eh1;simp only[eh1,Bool.true_and,Bool.false_and,Bool.and_true,Bool.and_false]at hr;subst hr;refine Wk trivial @h1 ?_;refine Fn @results89 trivial ?_;try exact ⟨⟩
     .have h1:=numbers_c [a.now] (by simp) _ eh1;simp only[eh1,Bool.true_and,Bool.false_and,Bool.and_true,Bool.and_false]at hr;subst hr;refine Wk trivial @h1 ?_;refine Fn @results89 trivial ?_;try exact ⟨⟩
    .rw[if_neg hc]at hr;refine Wk trivial trivial ?_;refine Cb ?_ ?_<;>intro hc<;>(try exact ⟨⟩)
     .rw[if_pos hc]at hr;subst hr;refine Wk trivial trivial ?_;refine Fn @results89 trivial ?_;try exact ⟨⟩
     .rw[if_neg hc]at hr;refine Wk trivial trivial ?_;refine Cb ?_ ?_<;>intro hc<;>(try exact ⟨⟩)
      .refine Wk trivial trivial ?_;refine Cb ?_ ?_<;>intro hc<;>(try exact ⟨⟩)
       .rw[if_pos (.inl hc)]at hr;cases eh0:venB a.ven
        .have h0:=ven_c a.ven _ eh0;simp only[eh0,Bool.true_and,Bool.false_and,Bool.and_true,Bool.and_false]at hr;subst hr;refine Wk trivial @h0 ?_;refine Fn @results89 trivial ?_;try exact ⟨⟩
        .have h0:=ven_c a.ven _ eh0;simp only[eh0,Bool.true_and,Bool.false_and,Bool.and_true,Bool.and_false]at hr;subst hr;refine Wk trivial @h0 ?_;refine Fn @results89 trivial ?_;try exact ⟨⟩
       .contradiction
      .refine Wk trivial trivial ?_;refine Cb ?_ ?_<;>intro hc<;>(try exact ⟨⟩)
       .rw[if_pos (.inr hc)]at hr;cases eh0:venB a.ven
        .have h0:=ven_c a.ven _ eh0;simp only[eh0,Bool.true_and,Bool.false_and,Bool.and_true,Bool.and_false]at hr;subst hr;refine Wk trivial @h0 ?_;refine Fn @results89 trivial ?_;try exact ⟨⟩
        .have h0:=ven_c a.ven _ eh0;simp only[eh0,Bool.true_and,Bool.false_and,Bool.and_true,Bool.and_false]at hr;subst hr;refine Wk trivial @h0 ?_;refine Fn @results89 trivial ?_;try exact ⟨⟩
       .rw[if_neg (by omega)]at hr;refine Wk trivial trivial ?_;refine Cb ?_ ?_<;>intro hc<;>(try exact ⟨⟩)
        .rw[if_pos hc]at hr;cases eh1:[a.l.acc,a.l.sym].all NS.nameB
         .have h1:=names_c [a.l.acc,a.l.sym] (by simp) _ eh1;simp only[eh1,Bool.true_and,Bool.false_and,Bool.and_true,Bool.and_false]at hr;subst hr;refine Wk trivial @h1 ?_;refine Fn @results89 trivial ?_;try exact ⟨⟩
         .have h1:=names_c [a.l.acc,a.l.sym] (by simp) _ eh1;cases eh2:[a.l.long,a.l.short,a.l.qty,a.l.value].all numB
          .have h2:=numbers_c [a.l.long,a.l.short,a.l.qty,a.l.value] (by simp) _ eh2;simp only[eh1,eh2,Bool.true_and,Bool.false_and,Bool.and_true,Bool.and_false]at hr;subst hr;refine Wk trivial (An @h1 @h2) ?_;refine Fn @results89 trivial ?_;try exact ⟨⟩
          .have h2:=numbers_c [a.l.long,a.l.short,a.l.qty,a.l.value] (by simp) _ eh2;simp only[eh1,eh2,Bool.true_and,Bool.false_and,Bool.and_true,Bool.and_false]at hr;subst hr;refine Wk trivial (An @h1 @h2) ?_;refine Fn @results89 trivial ?_;try exact ⟨⟩
        .rw[if_neg hc]at hr;refine Wk trivial trivial ?_;subst hr;refine Fn @results89 trivial ?_;try exact ⟨⟩
end Eng
end Go.Proofs.YtgenjpingdkmgaaGreatDoor
