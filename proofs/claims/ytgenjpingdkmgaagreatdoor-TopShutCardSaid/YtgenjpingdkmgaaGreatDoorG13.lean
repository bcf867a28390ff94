/- Contracts of functions that this seat's law calls. No condition. -/
import Derived.Test.YtgenjpingdkmgaaGreatDoorG12
set_option maxRecDepth 100000
set_option linter.unusedSimpArgs false
set_option linter.unusedVariables false
open Go.Proofs.Tryz
namespace Go.Proofs.YtgenjpingdkmgaaGreatDoor
namespace Eng
namespace NO
structure Ord where
 id:ByteArray
 acc:ByteArray
 sym:ByteArray
 buy:Bool
 qty:Int
 price:Int
 done:Int
 op:Bool
instance :Inhabited Ord:=⟨⟨⟨#[]⟩,⟨#[]⟩,⟨#[]⟩,false,0,0,0,false⟩⟩
abbrev oC (o:Ord):List C:=[.v (.x (.string o.id)),.v (.x (.string o.acc)),.v (.x (.string o.sym)),.v (.x (.bool o.buy)),.v (.x (.int .i64 o.qty)),.v (.x (.int .i64 o.price)),.v (.x (.int .i64 o.done)),.v (.x (.bool o.op))]
abbrev oD (o:Ord):D:=.e (.a (oC o))
abbrev oR (l:List Ord):List (List V):=l.map fun o=>[V.x (.string o.id),V.x (.string o.acc),V.x (.string o.sym),V.x (.bool o.buy),V.x (.int .i64 o.qty),V.x (.int .i64 o.price),V.x (.int .i64 o.done),V.x (.bool o.op)]
theorem Ze (l:List Ord) (i:Nat):(l.map fun o=>[V.x (.string o.id),V.x (.string o.acc),V.x (.string o.sym),V.x (.bool o.buy),V.x (.int .i64 o.qty),V.x (.int .i64 o.price),V.x (.int .i64 o.done),V.x (.bool o.op)]).getD i
 [V.x (.string ⟨#[]⟩),V.x (.string ⟨#[]⟩),V.x (.string ⟨#[]⟩),V.x (.bool false),V.x (.int .i64 0),V.x (.int .i64 0),V.x (.int .i64 0),V.x (.bool false)] =
 [V.x (.string (l.getD i default).id),V.x (.string (l.getD i default).acc),V.x (.string (l.getD i default).sym),V.x (.bool (l.getD i default).buy),V.x (.int .i64 (l.getD i default).qty),V.x (.int .i64 (l.getD i default).price),V.x (.int .i64 (l.getD i default).done),V.x (.bool (l.getD i default).op)]:=by
 simp only[List.getD_eq_getElem?_getD,List.getElem?_map];cases l[i]?<;>rfl
abbrev osV (l:List Ord):V:=.s 8 (oR l)
abbrev osD (l:List Ord):D:=.e (.c (.v (osV l)))
abbrev SD (s:ByteArray):D:=.e (.c (.v (.x (.string s))))
def namedB (s:ByteArray):Bool:=!(s.data.toList == (⟨#[]⟩:ByteArray).data.toList) && decide ((s.size:Int)<=16)
def amountB (n:Int):Bool:=decide (0<=n) && decide (n<=1099511627776)
def mayB (o:Ord):Bool:=namedB o.id && namedB o.acc && namedB o.sym && amountB o.qty && amountB o.price && decide (0<=o.done) && decide (o.done<=o.qty)
def qOT11:=PLift.up (An @Zi (An @take_m (An @among2 @Ze)))
theorem named_c (s:ByteArray):ACall prog 119 [] [SD s] (B (namedB s)) []:=by
 refine Ac func119 ?_;refine Wk qOT11.1 trivial ?_;refine Fn @results119 qOT11.1 ?_;try exact ⟨⟩
 rfl
theorem amount_c (n:Int):ACall prog 120 [] [I n] (B (amountB n)) []:=by
 refine Ac func120 ?_;refine Wk qOT11.1 trivial ?_;refine Fn @results120 qOT11.1 ?_;try exact ⟨⟩
 rfl
theorem may_c (o:Ord):ACall prog 50 [] [oD o] (B (mayB o)) []:=by
 refine Ac func50 ?_;refine Wk qOT11.1 (An @named_c @amount_c) ?_;refine Fn @results50 qOT11.1 ?_;try exact ⟨⟩
 rfl
end NO
namespace NO
theorem amountB_spec {n:Int}:amountB n=true↔0<=n/\n<=1099511627776:=by simp[amountB]
theorem mayB_spec {o:Ord} (h:mayB o=true):(0<=o.qty/\o.qty<=1099511627776)/\(0<=o.price/\o.price<=1099511627776)/\0<=o.done/\o.done<=o.qty:=by
 simp only[mayB,Bool.and_eq_true,decide_eq_true_eq,amountB_spec]at h;exact ⟨h.1.1.1.2,h.1.1.2,h.1.2,h.2⟩
def leftI (o:Ord):Int:=if mayB o=true/\o.op=true then o.qty - o.done else 0
def qOT22:=PLift.up (An @may_c @amount_c)
def qOT21:=PLift.up (An @Zi (An @take_m (An @among2 @Ze)))
theorem Zs (o:Ord):ACall prog 74 [] [oD o] (I (leftI o)) []:=by
 refine Ac func74 ?_;refine Wk qOT21.1 qOT22.1 ?_;refine Cb ?_ ?_<;>intro hc<;>(try exact ⟨⟩)
 .refine Wk qOT21.1 qOT22.1 ?_;have e:leftI o=0:=by rw[leftI,if_neg];rintro ⟨h1,h2⟩;simp[h1,h2]at hc
  rw[e];refine Fn @results74 qOT21.1 ?_;try exact ⟨⟩
 .have hm:=mayB_spec hc.1;refine Wk qOT21.1 qOT22.1 ?_;have e:leftI o=o.qty - o.done:=by rw[leftI,if_pos hc]
  rw[e];refine Fn @results74 qOT21.1 ?_;try exact ⟨⟩
def fairB (o:Ord) (p:Int):Bool:=amountB p && (if o.buy then decide (p<=o.price) else decide (o.price<=p))
theorem Zu (o:Ord) (p:Int):ACall prog 294 [] [oD o,I p] (B (fairB o p)) []:=by
 refine Ac func294 ?_;refine Wk qOT21.1 qOT22.1 ?_;refine Cb ?_ ?_<;>intro hc<;>(try exact ⟨⟩)
 .refine Wk qOT21.1 qOT22.1 ?_;have e:fairB o p=false:=by simp[fairB,hc]
  rw[e];refine Fn @results294 qOT21.1 ?_;try exact ⟨⟩
 .refine Wk qOT21.1 qOT22.1 ?_;refine Cb ?_ ?_<;>intro hc<;>(try exact ⟨⟩)
  .refine Wk qOT21.1 qOT22.1 ?_;have e:fairB o p=decide (p<=o.price):=by simp[fairB, *]
   rw[e];refine Fn @results294 qOT21.1 ?_;try exact ⟨⟩
  .refine Wk qOT21.1 qOT22.1 ?_;have e:fairB o p=decide (o.price<=p):=by simp[fairB, *]
   rw[e];refine Fn @results294 qOT21.1 ?_;try exact ⟨⟩
abbrev eqN (o:Ord) (id:ByteArray):Bool:=o.id.data.toList == id.data.toList
theorem place1_c (o:Ord) (id:ByteArray):ACall prog 207 [] [oD o,.q [.x (.string id)]] (B (eqN o id)) []:=by
 refine Ac func207 ?_;refine Wk qOT21.1 qOT22.1 ?_;refine Fn @results207 qOT21.1 ?_;try exact ⟨⟩
def placeN (id:ByteArray):List Ord->Option Nat
 | []=>none
 | o::l=>if eqN o id then some 0 else (placeN id l).map (·+1)
def placeI (l:List Ord) (id:ByteArray):Int:=match placeN id l with
 | some i=>i
 | none=>-1
theorem placeN_none {id:ByteArray}:∀ {l:List Ord},(∀i,i<l.length->eqN (l.getD i default) id=false)->placeN id l=none
 | [],_=>rfl
 | o::l,h=>by
  have h0:=h 0 (by simp);simp only[List.getD_cons_zero]at h0;rw[placeN,if_neg (by rw[h0];simp),placeN_none (l:=l) fun i hi=>by have:=h (i+1) (by simpa using hi);simpa using this];rfl
theorem placeN_some {id:ByteArray}:∀ {l:List Ord} {k:Nat},k<l.length->(∀i,i<k->eqN (l.getD i default) id=false)->eqN (l.getD k default) id=true->placeN id l=some k
 | [],k,h,_,_=>by simp at h
 | o::l,0,_,_,h=>by
  simp only[List.getD_cons_zero]at h
  rw[placeN,if_pos h]
 | o::l,k+1,hk,h,he=>by
  have h0:=h 0 (by omega);simp only[List.getD_cons_zero]at h0;rw[placeN,if_neg (by rw[h0];simp),placeN_some (l:=l) (k:=k) (by simpa using hk) (fun i hi=>by have:=h (i+1) (by omega);simpa using this) (by simpa using he)];rfl
theorem placeN_spec {id:ByteArray}:∀ {l:List Ord} {k:Nat},placeN id l=some k->k<l.length/\(∀i,i<k->eqN (l.getD i default) id=false)/\eqN (l.getD k default) id=true
 | [],k,h=>by simp[placeN]at h
 | o::l,k,h=>by
  rw[placeN]at h
  split at h
  .rename_i h0;cases h;exact ⟨by simp,fun i hi=>by omega,by simpa using h0⟩
  .rename_i h0;simp only[Option.map_eq_some_iff]at h;obtain ⟨j,hj,rfl⟩:=h;obtain ⟨h1,h2,h3⟩:=placeN_spec hj;refine ⟨by simp;omega,fun i hi=>?_,by simpa using h3⟩
   cases i with
   | zero=>simpa using h0
   | succ i=>simpa using h2 i (by omega)
theorem placeN_spec0 {id:ByteArray}:∀ {l:List Ord},placeN id l=none->∀i,i<l.length->eqN (l.getD i default) id=false
 | [],_,i,hi=>by simp at hi
 | o::l,h,i,hi=>by
  rw[placeN]at h
  split at h
  .cases h
  .rename_i h0;simp only[Option.map_eq_none_iff]at h
   cases i with
   | zero=>simpa using h0
   | succ i=>simpa using placeN_spec0 h i (by simpa using hi)
def qOT23:=PLift.up (An @may_c (An @amount_c @place1_c))
theorem indexFunc_c (l:List Ord) (id:ByteArray) (hl:l.length<=1000000):ACall prog 126 [] [osD l,.e (.c (.v (.f 207 [[.x (.string id)]])))] (I (placeI l id)) []:=by
 refine Ac func126 ?_;refine Wk qOT21.1 qOT23.1 ?_;refine AWp.loop (fun k:Nat=>mkSt [(0,osD l),(1,.e (.c (.v (.f 207 [[.x (.string id)]])))),(7,I l.length),(8,I k)] [] 0) (fun k=>k<=l.length/\∀i,i<k->eqN (l.getD i default) id=false) (fun k=>l.length - k) 0 ⟨Nat.zero_le _,fun i hi=>by omega⟩ (by refine Le.of (τ:=[]) (ν:=[]) (by kernel_rfl) ?_ ?_<;>((refine Lw qOT21.1 ?_;try exact ⟨⟩);try omega)) fun k hk=>?_;obtain ⟨hk,ho⟩:=hk;refine Wk qOT21.1 qOT23.1 ?_;refine Cb ?_ ?_<;>intro hc<;>(try exact ⟨⟩)
 .refine Wk qOT21.1 qOT23.1 ?_;refine Cb ?_ ?_<;>intro hc<;>(try exact ⟨⟩)
  .refine Wk qOT21.1 qOT23.1 ?_;have e:placeI l id=k:=by rw[placeI,placeN_some (k:=k) (by omega) ho (beq_iff_eq.2 hc)]
   rw[e];refine Fn @results126 qOT21.1 ?_;try exact ⟨⟩
  .refine Wk qOT21.1 qOT23.1 ?_;refine Za (k+1) ⟨by omega,fun i hi=>?_⟩ (by omega) (by refine Le.of (τ:=[]) (ν:=[]) (by kernel_rfl) ?_ ?_<;>((refine Lw qOT21.1 ?_;try exact ⟨⟩);try omega));by_cases e:i=k
   .subst e;simpa using hc
   .exact ho i (by omega)
 .refine Wk qOT21.1 qOT23.1 ?_;have e:placeI l id=-1:=by rw[placeI,placeN_none fun i hi=>ho i (by omega)]
  rw[e];refine Fn @results126 qOT21.1 ?_;try exact ⟨⟩
theorem placeI_lt (l:List Ord) (id:ByteArray):-1<=placeI l id/\placeI l id<l.length:=by
 unfold placeI
 split
 .rename_i i h;have:=(placeN_spec h).1;omega
 .omega
theorem place_c (l:List Ord) (id:ByteArray) (hl:l.length<=1000000):ACall prog 157 [] [osD l,SD id] (I (placeI l id)) []:=by
 refine Ac func157 ?_;refine Wk qOT21.1 (An @may_c (An @amount_c (An @place1_c @indexFunc_c))) ?_;refine Fn @results157 qOT21.1 ?_;try exact ⟨⟩
def openI (l:List Ord) (id:ByteArray):Int:=if 0<=placeI l id/\(l.getD (placeI l id).toNat default).op=false then -1 else placeI l id
def qOT24:=PLift.up (An @may_c (An @amount_c (An @place1_c (An @indexFunc_c @place_c))))
theorem open_c (l:List Ord) (id:ByteArray) (hl:l.length<=1000000):ACall prog 267 [] [osD l,SD id] (I (openI l id)) []:=by
 have hp:=placeI_lt l id;refine Ac func267 ?_;refine Wk qOT21.1 qOT24.1 ?_;refine Cb ?_ ?_<;>intro hc<;>(try exact ⟨⟩)
 .refine Wk qOT21.1 qOT24.1 ?_;have e:openI l id=-1:=by rw[openI,if_pos];simpa using hc
  rw[e];refine Fn @results267 qOT21.1 ?_;try exact ⟨⟩
 .refine Wk qOT21.1 qOT24.1 ?_;have e:openI l id=placeI l id:=by rw[openI,if_neg];rintro ⟨h1,h2⟩;rcases hc with h|h<;>simp_all<;>omega
  rw[e];refine Fn @results267 qOT21.1 ?_;try exact ⟨⟩
def rightP (l:List Ord) (k:Nat):Prop:=∀i,i<k->mayB (l.getD i default)=true/\placeI (l.take i) (l.getD i default).id<0
open Classical in
noncomputable def rightB (l:List Ord):Bool:=decide (l.length<=64/\rightP l l.length)
theorem Zy {l:List Ord}:rightB l=true↔l.length<=64/\rightP l l.length:=by simp[rightB]
theorem right_c (l:List Ord):ACall prog 100 [] [osD l] (B (rightB l)) []:=by
 refine Ac func100 ?_;refine Wk qOT21.1 qOT24.1 ?_;refine Cb ?_ ?_<;>intro hc<;>(try exact ⟨⟩)
 .refine Wk qOT21.1 qOT24.1 ?_;have e:rightB l=false:=by rw[<-Bool.not_eq_true,Zy];omega
  rw[e];refine Fn @results100 qOT21.1 ?_;try exact ⟨⟩
 .refine Wk qOT21.1 qOT24.1 ?_;refine AWp.loop (fun k:Nat=>mkSt [(0,osD l),(8,osD l),(9,I l.length),(10,I k)] [] 0) (fun k=>k<=l.length/\rightP l k) (fun k=>l.length - k) 0 ⟨Nat.zero_le _,fun i hi=>by omega⟩ (by refine Le.of (τ:=[]) (ν:=[]) (by kernel_rfl) ?_ ?_<;>((refine Lw qOT21.1 ?_;try exact ⟨⟩);try omega)) fun k hk=>?_;obtain ⟨hk,ho⟩:=hk;refine Wk qOT21.1 qOT24.1 ?_;refine Cb ?_ ?_<;>intro hc<;>(try exact ⟨⟩)
  .have hlen:(l.take k).length<=1000000:=by rw[List.length_take];omega
   refine Wk qOT21.1 qOT24.1 ?_;refine Cb ?_ ?_<;>intro hc<;>(try exact ⟨⟩)
   .refine Wk qOT21.1 qOT24.1 ?_
    have e:rightB l=false:=by
     rw[<-Bool.not_eq_true,Zy];rintro ⟨_,h⟩;have h:=h k (by omega);rcases hc with h1|h1
     .rw[h1]at h;exact absurd h.1 (by simp)
     .omega
    rw[e];refine Fn @results100 qOT21.1 ?_;try exact ⟨⟩
   .refine Wk qOT21.1 qOT24.1 ?_;refine Za (k+1) ⟨by omega,fun i hi=>?_⟩ (by omega) (by refine Le.of (τ:=[]) (ν:=[]) (by kernel_rfl) ?_ ?_<;>((refine Lw qOT21.1 ?_;try exact ⟨⟩);try omega));by_cases e:i=k
    .subst e;exact ⟨hc.1,by omega⟩
    .exact ho i (by omega)
  .refine Wk qOT21.1 qOT24.1 ?_;have e:rightB l=true:=by rw[Zy];refine ⟨by omega,?_⟩;rw[show l.length=k by omega];exact ho
   rw[e];refine Fn @results100 qOT21.1 ?_;try exact ⟨⟩
end NO
namespace NO
noncomputable def findS (l:List Ord) (id:ByteArray):Ord×Bool:=if rightB l=true/\0<=placeI l id then (l.getD (placeI l id).toNat default,true) else (default,false)
def qOT32:=PLift.up (An @right_c @place_c)
def qOT31:=PLift.up (An @Zi (An @take_m (An @among2 @Ze)))
theorem find_c (l:List Ord) (id:ByteArray) (r:Ord×Bool) (hr:findS l id=r) (hl:l.length<=1000000):ACall prog 152 [] [osD l,SD id] (.t [.a (oC r.1),.c (.v (.x (.bool r.2)))]) []:=by
 have hp:=placeI_lt l id;refine Ac func152 ?_;refine Wk qOT31.1 qOT32.1 ?_;refine Cb ?_ ?_<;>intro hc<;>(try exact ⟨⟩)
 .refine Wk qOT31.1 qOT32.1 ?_;have e:r=(default,false):=by rw[<-hr,findS,if_neg];rw[hc];simp
  subst e;refine Fn @results152 qOT31.1 ?_;try exact ⟨⟩
  exact ⟨rfl,rfl,rfl,rfl,rfl,rfl,rfl,rfl⟩
 .refine Wk qOT31.1 qOT32.1 ?_;refine Cb ?_ ?_<;>intro hc<;>(try exact ⟨⟩)
  .refine Wk qOT31.1 qOT32.1 ?_;have e:r=(default,false):=by rw[<-hr,findS,if_neg];omega
   subst e;refine Fn @results152 qOT31.1 ?_;try exact ⟨⟩
   exact ⟨rfl,rfl,rfl,rfl,rfl,rfl,rfl,rfl⟩
  .refine Wk qOT31.1 qOT32.1 ?_;have e:r=(l.getD (placeI l id).toNat default,true):=by rw[<-hr,findS,if_pos];exact ⟨by assumption,by omega⟩
   subst e;refine Fn @results152 qOT31.1 ?_;try exact ⟨⟩
theorem zOT31 {R G:Prop} (k:R) (h:Box R->G:=by
 intro k;simp (disch:=omega) only[↓reduceIte,Zo,backT,pos,idsB,idsC,nodup,live,makeSliceE,viewE,viewFE,appendUE,appendFE,capFE,copyE,copySrc,clearE,guardB,isNilOp,nilS,withTy,splice,lenE,appendE,sliceE,boundE,indexAddrE,indexE,buildE,fillE,buildSliceE,partsE,builtinE,minE,minI,convE,convHE,appendNE,capE,D.x,id_eq,eq_self,if_true,if_false,ne_eq,implies_true,Nat.reduceAdd,Nat.reduceMul,Nat.reduceSub,Nat.reduceEqDiff,Nat.reduceLT,Nat.reduceLeDiff,reduceCtorEq,Nat.mul_one,Int.mul_one,nO_eq,Int.reduceToNat,oF_eq,Nat.reduceBEq,Bool.true_or,Bool.false_or,Bool.or_false,Z8,Zn,Zi,take_m,among2,Int.reduceEq,decide_false,Bool.false_eq_true,false_implies,forall_const,Bool.not_true,Bool.not_false,BEq.rfl,Ze,Zp,forall_const,Nat.reduceBEq,Int.reduceEq,bne_self_eq_false,true_and,tyAll]
 all_goals exact k.out):G:=h ⟨k⟩
theorem clone_c (l:List Ord) (h:l.length<=1000000):ACall prog 85 [] [osD l] (.e (.c (.o 0 l.length))) [.row 8 (oR l)]:=by
 refine Ac func85 ?_
 repeat' (first|((fail_if_success clear hK);change AWp _ _ _ _ _ _;first|refine AWp.seq ?_|refine AWp.text (own:=nO) tG_ok (by kernel_rfl) (fun K hK=>?_)|refine AWp.draw (own:=nO) tG_ok mixed (by kernel_rfl) (by kernel_rfl) (fun K hK=>?_)|refine AWp.skip ?_|refine AWp.ret ?_|refine AWp.exit ?_|refine AWp.label ?_|refine AWp.block ?_)|(revert hK;intro hK;first|(with_reducible refine hK _ _ _ ?_;clear hK K)|(with_reducible refine hK _ _ _ ?_ ?_;(focus kernel_rfl);clear hK K)|((with_reducible change CallS _ _ _ _ _ _);(first|refine CallS.of (right_c _) ?_|refine CallS.of (place_c _ _ (by omega)) ?_))|(with_reducible refine And.intro ?_ ?_)|((first|exact zOT31 trivial|refine zOT31 ?_))|(first|omega|(intro hq;(try simp only[Zf,ne_eq,Bool.not_not,Bool.and_true]at hq);first|omega|assumption|(simp_all;done))|(simp_all;done))|(intro (bn:Bool) hbn)))
 refine Cb ?_ ?_<;>intro hc<;>(try exact ⟨⟩)
 .repeat' (first|((fail_if_success clear hK);change AWp _ _ _ _ _ _;first|refine AWp.seq ?_|refine AWp.text (own:=nO) tG_ok (by kernel_rfl) (fun K hK=>?_)|refine AWp.draw (own:=nO) tG_ok mixed (by kernel_rfl) (by kernel_rfl) (fun K hK=>?_)|refine AWp.skip ?_|refine AWp.ret ?_|refine AWp.exit ?_|refine AWp.label ?_|refine AWp.block ?_)|(revert hK;intro hK;first|(with_reducible refine hK _ _ _ ?_;clear hK K)|(with_reducible refine hK _ _ _ ?_ ?_;(focus kernel_rfl);clear hK K)|((with_reducible change CallS _ _ _ _ _ _);(first|refine CallS.of (right_c _) ?_|refine CallS.of (place_c _ _ (by omega)) ?_))|(with_reducible refine And.intro ?_ ?_)|((first|exact zOT31 trivial|refine zOT31 ?_))|(first|omega|(intro hq;(try simp only[Zf,ne_eq,Bool.not_not,Bool.and_true]at hq);first|omega|assumption|(simp_all;done))|(simp_all;done))|(intro (bn:Bool) hbn)))
  subst hc;have e:l=[]:=by simpa using hbn rfl
  subst e;refine Fs @results85 ?_;refine ⟨[],[],[0],by kernel_rfl,?_,?_⟩<;>((refine Lw qOT31.1 ?_;try exact ⟨⟩);try rfl)
 .repeat' (first|((fail_if_success clear hK);change AWp _ _ _ _ _ _;first|refine AWp.seq ?_|refine AWp.text (own:=nO) tG_ok (by kernel_rfl) (fun K hK=>?_)|refine AWp.draw (own:=nO) tG_ok mixed (by kernel_rfl) (by kernel_rfl) (fun K hK=>?_)|refine AWp.skip ?_|refine AWp.ret ?_|refine AWp.exit ?_|refine AWp.label ?_|refine AWp.block ?_)|(revert hK;intro hK;first|(with_reducible refine hK _ _ _ ?_;clear hK K)|(with_reducible refine hK _ _ _ ?_ ?_;(focus kernel_rfl);clear hK K)|((with_reducible change CallS _ _ _ _ _ _);(first|refine CallS.of (right_c _) ?_|refine CallS.of (place_c _ _ (by omega)) ?_))|(with_reducible refine And.intro ?_ ?_)|((first|exact zOT31 trivial|refine zOT31 ?_))|(first|omega|(intro hq;(try simp only[Zf,ne_eq,Bool.not_not,Bool.and_true]at hq);first|omega|assumption|(simp_all;done))|(simp_all;done))|(intro (bn:Bool) hbn)))
  refine Fs @results85 ?_;refine ⟨[320],[(0,320)],[],by kernel_rfl,?_,?_⟩<;>((refine Lw qOT31.1 ?_;try exact ⟨⟩);try omega)
end NO
namespace NO
theorem openI_lt (l:List Ord) (id:ByteArray):-1<=openI l id/\openI l id<l.length:=by
 have:=placeI_lt l id;unfold openI
 split<;>omega
theorem getD_oRn (l:List Ord) (i:Nat) (h:i<l.length):(l.map fun o=>[V.x (.string o.id),V.x (.string o.acc),V.x (.string o.sym),V.x (.bool o.buy),V.x (.int .i64 o.qty),V.x (.int .i64 o.price),V.x (.int .i64 o.done),V.x (.bool o.op)]).getD i [] =
 [V.x (.string (l.getD i default).id),V.x (.string (l.getD i default).acc),V.x (.string (l.getD i default).sym),V.x (.bool (l.getD i default).buy),V.x (.int .i64 (l.getD i default).qty),V.x (.int .i64 (l.getD i default).price),V.x (.int .i64 (l.getD i default).done),V.x (.bool (l.getD i default).op)]:=by
 simp[List.getD_eq_getElem?_getD,h]
abbrev rowO (o:Ord):List V:=[V.x (.string o.id),V.x (.string o.acc),V.x (.string o.sym),V.x (.bool o.buy),V.x (.int .i64 o.qty),V.x (.int .i64 o.price),V.x (.int .i64 o.done),V.x (.bool o.op)]
theorem app_row (l:List Ord) (b:Ord) (n:Nat) (hn:l.length=n):oR (l++[b])=List.take (n+1) (List.take n (l.map rowO)++[rowO b])/\n+1<=(List.take n (l.map rowO)++[rowO b]).length:=by
 subst hn;rw[List.take_of_length_le (l:=l.map rowO) (by simp),List.take_of_length_le (by simp)];exact ⟨by simp,by simp⟩
theorem set_app (l:List Ord) (i:Nat) (a b:Ord):oR (l.set i a++[b])=List.take (l.length+1) (List.take l.length ((l.map rowO).set i (rowO a))++[rowO b])/\l.length+1<=(List.take l.length ((l.map rowO).set i (rowO a))++[rowO b]).length:=by
 rw[<-List.map_set];exact app_row (l.set i a) b l.length (by simp)
def chO (o:Ord) (id:ByteArray) (qty price:Int):Ord:=⟨id,o.acc,o.sym,o.buy,qty,price,o.done,decide (o.done<qty)⟩
def shut (o:Ord):Ord:=⟨o.id,o.acc,o.sym,o.buy,o.qty,o.price,o.done,false⟩
noncomputable def changeS (l:List Ord) (old id:ByteArray) (qty price:Int):List Ord×Int :=
 if rightB l=false then (l,1)
 else if openI l old<0 then (l,6)
 else if mayB (chO (l.getD (openI l old).toNat default) id qty price)=false then (l,1)
 else if 0<=placeI l id then (l,7)
 else if 64<=l.length then (l,5)
 else (l.set (openI l old).toNat (shut (l.getD (openI l old).toNat default))++[chO (l.getD (openI l old).toNat default) id qty price],0)
abbrev resD (r:List Ord×Int):D:=.t [.c (.v (osV r.1)),.c (.v (vI r.2))]
def qOT42:=PLift.up (An @clone_c (An @right_c (An @place_c @open_c)))
def qOT41:=PLift.up (An @Zi (An @take_m (An @among2 (An @Ze @getD_oRn))))
theorem change_c (l:List Ord) (old id:ByteArray) (qty price:Int) (r:List Ord×Int) (hr:changeS l old id qty price=r) (h:l.length<=1000000) :
 ACall prog 266 [] [osD l,SD old,SD id,I qty,I price] (resD r) []:=by
 have hp:=placeI_lt l id;have ho:=openI_lt l old;refine Ac func266 ?_;refine Wk qOT41.1 (An (fun u1 u2 u3 u4 u5 u6 u7 u8=>may_c ⟨u1,u2,u3,u4,u5,u6,u7,u8⟩) qOT42.1) ?_;refine Cb ?_ ?_<;>intro hc<;>(try exact ⟨⟩)
 .refine Wk qOT41.1 (An (fun u1 u2 u3 u4 u5 u6 u7 u8=>may_c ⟨u1,u2,u3,u4,u5,u6,u7,u8⟩) qOT42.1) ?_;have e:r=(l,1):=by rw[<-hr,changeS,if_pos hc]
  subst e;refine Fn @results266 qOT41.1 ?_;try exact ⟨⟩
 .refine Wk qOT41.1 (An (fun u1 u2 u3 u4 u5 u6 u7 u8=>may_c ⟨u1,u2,u3,u4,u5,u6,u7,u8⟩) qOT42.1) ?_;refine Cb ?_ ?_<;>intro hc<;>(try exact ⟨⟩)
  .refine Wk qOT41.1 (An (fun u1 u2 u3 u4 u5 u6 u7 u8=>may_c ⟨u1,u2,u3,u4,u5,u6,u7,u8⟩) qOT42.1) ?_;have e:r=(l,6):=by rw[<-hr,changeS,if_neg (by simpa using ‹rightB l=true›),if_pos hc]
   subst e;refine Fn @results266 qOT41.1 ?_;try exact ⟨⟩
  .have hR:¬rightB l=false:=by simpa using ‹rightB l=true›
   have hO:¬openI l old<0:=hc;refine Wk qOT41.1 (An (fun u1 u2 u3 u4 u5 u6 u7 u8=>may_c ⟨u1,u2,u3,u4,u5,u6,u7,u8⟩) qOT42.1) ?_;refine Cb ?_ ?_<;>intro hc<;>(try exact ⟨⟩)
   .have hc':mayB (chO (l.getD (openI l old).toNat default) id qty price)=false:=hc;refine Wk qOT41.1 (An (fun u1 u2 u3 u4 u5 u6 u7 u8=>may_c ⟨u1,u2,u3,u4,u5,u6,u7,u8⟩) qOT42.1) ?_;have e:r=(l,1):=by rw[<-hr,changeS,if_neg hR,if_neg hO,if_pos hc']
    subst e;refine Fn @results266 qOT41.1 ?_;try exact ⟨⟩
   .have hM:¬mayB (chO (l.getD (openI l old).toNat default) id qty price)=false:=by
     have hc':mayB (chO (l.getD (openI l old).toNat default) id qty price)=true:=hc;rw[hc'];simp
    refine Wk qOT41.1 (An (fun u1 u2 u3 u4 u5 u6 u7 u8=>may_c ⟨u1,u2,u3,u4,u5,u6,u7,u8⟩) qOT42.1) ?_;refine Cb ?_ ?_<;>intro hc<;>(try exact ⟨⟩)
    .refine Wk qOT41.1 (An (fun u1 u2 u3 u4 u5 u6 u7 u8=>may_c ⟨u1,u2,u3,u4,u5,u6,u7,u8⟩) qOT42.1) ?_;have e:r=(l,7):=by rw[<-hr,changeS,if_neg hR,if_neg hO,if_neg hM,if_pos hc]
     subst e;refine Fn @results266 qOT41.1 ?_;try exact ⟨⟩
    .refine Wk qOT41.1 (An (fun u1 u2 u3 u4 u5 u6 u7 u8=>may_c ⟨u1,u2,u3,u4,u5,u6,u7,u8⟩) qOT42.1) ?_;refine Cb ?_ ?_<;>intro hc<;>(try exact ⟨⟩)
     .refine Wk qOT41.1 (An (fun u1 u2 u3 u4 u5 u6 u7 u8=>may_c ⟨u1,u2,u3,u4,u5,u6,u7,u8⟩) qOT42.1) ?_;have e:r=(l,5):=by rw[<-hr,changeS,if_neg hR,if_neg hO,if_neg hM,if_neg (by assumption),if_pos (by omega)]
      subst e;refine Fn @results266 qOT41.1 ?_;try exact ⟨⟩
     .refine Wk qOT41.1 (An (fun u1 u2 u3 u4 u5 u6 u7 u8=>may_c ⟨u1,u2,u3,u4,u5,u6,u7,u8⟩) qOT42.1) ?_
      have e:r=(l.set (openI l old).toNat (shut (l.getD (openI l old).toNat default))++[chO (l.getD (openI l old).toNat default) id qty price],0):=by
       rw[<-hr,changeS,if_neg hR,if_neg hO,if_neg hM,if_neg (by assumption),if_neg (by omega)]
      subst e;refine Fn @results266 qOT41.1 ?_;try exact ⟨⟩
      exact set_app l _ (shut (l.getD (openI l old).toNat default)) (chO (l.getD (openI l old).toNat default) id qty price)
end NO
namespace NO
theorem getD_sO (f:Ord->List V) (l:List Ord) (i:Nat) (x d:List V) (h:i<l.length):((l.map f).set i x).getD i d=x:=by
 simp[List.getD_eq_getElem?_getD,h]
theorem rowAt_sO (f:Ord->List V) (l:List Ord) (i:Nat) (x:List V) (ty:Ty) (off:Nat) (h:i<l.length):rowAt ty ((l.map f).set i x) i off=x.drop off:=by
 unfold rowAt;rw[List.getElem?_set_self (by simpa using h)]
theorem set_row (l:List Ord) (i:Nat) (a:Ord):oR (l.set i a)=List.take l.length ((l.map rowO).set i (rowO a))/\l.length<=((l.map rowO).set i (rowO a)).length:=by
 rw[<-List.map_set,List.take_of_length_le (by simp)];exact ⟨rfl,by simp⟩
theorem app_row0 (l:List Ord) (b:Ord):oR (l++[b])=List.take (l.length+1) (l.map rowO++[rowO b])/\l.length+1<=(l.map rowO++[rowO b]).length:=by
 have:=app_row l b l.length rfl
 rwa [List.take_of_length_le (l:=l.map rowO) (by simp)]at this
def nwO (o:Ord):Ord:=⟨o.id,o.acc,o.sym,o.buy,o.qty,o.price,0,true⟩
noncomputable def newS (l:List Ord) (o:Ord):List Ord×Int :=
 if rightB l=false\/mayB (nwO o)=false then (l,1)
 else if 0<=placeI l o.id then (l,7)
 else if 64<=l.length then (l,5)
 else (l++[nwO o],0)
def qOT52:=PLift.up (An @clone_c (An @right_c (An @place_c @open_c)))
def qOT51:=PLift.up (An @Zi (An @take_m (An @among2 (An @Ze (An @getD_oRn (An @getD_sO (An @rowAt_sO @List.set_set.{0})))))))
theorem new_c (l:List Ord) (o:Ord) (r:List Ord×Int) (hr:newS l o=r) (h:l.length<=1000000):ACall prog 226 [] [osD l,oD o] (resD r) []:=by
 have hp:=placeI_lt l o.id;refine Ac func226 ?_;refine Wk qOT51.1 (An (may_c (nwO o)) (An (fun u1=>Zs (l.getD u1 default)) (An (fun u1 u2=>Zu (l.getD u1 default) u2) qOT52.1))) ?_;refine Cb ?_ ?_<;>intro hc<;>(try exact ⟨⟩)
 .refine Wk qOT51.1 (An (may_c (nwO o)) (An (fun u1=>Zs (l.getD u1 default)) (An (fun u1 u2=>Zu (l.getD u1 default) u2) qOT52.1))) ?_;have e:r=(l,1):=by rw[<-hr,newS,if_pos hc]
  subst e;refine Fn @results226 qOT51.1 ?_;try exact ⟨⟩
 .have hR:¬(rightB l=false\/mayB (nwO o)=false):=by
   have hc':rightB l=true/\mayB (nwO o)=true:=hc;rw[hc'.1,hc'.2];simp
  refine Wk qOT51.1 (An (may_c (nwO o)) (An (fun u1=>Zs (l.getD u1 default)) (An (fun u1 u2=>Zu (l.getD u1 default) u2) qOT52.1))) ?_;refine Cb ?_ ?_<;>intro hc<;>(try exact ⟨⟩)
  .refine Wk qOT51.1 (An (may_c (nwO o)) (An (fun u1=>Zs (l.getD u1 default)) (An (fun u1 u2=>Zu (l.getD u1 default) u2) qOT52.1))) ?_;have e:r=(l,7):=by rw[<-hr,newS,if_neg hR,if_pos hc]
   subst e;refine Fn @results226 qOT51.1 ?_;try exact ⟨⟩
  .refine Wk qOT51.1 (An (may_c (nwO o)) (An (fun u1=>Zs (l.getD u1 default)) (An (fun u1 u2=>Zu (l.getD u1 default) u2) qOT52.1))) ?_;refine Cb ?_ ?_<;>intro hc<;>(try exact ⟨⟩)
   .refine Wk qOT51.1 (An (may_c (nwO o)) (An (fun u1=>Zs (l.getD u1 default)) (An (fun u1 u2=>Zu (l.getD u1 default) u2) qOT52.1))) ?_;have e:r=(l,5):=by rw[<-hr,newS,if_neg hR,if_neg (by assumption),if_pos (by omega)]
    subst e;refine Fn @results226 qOT51.1 ?_;try exact ⟨⟩
   .refine Wk qOT51.1 (An (may_c (nwO o)) (An (fun u1=>Zs (l.getD u1 default)) (An (fun u1 u2=>Zu (l.getD u1 default) u2) qOT52.1))) ?_;have e:r=(l++[nwO o],0):=by rw[<-hr,newS,if_neg hR,if_neg (by assumption),if_neg (by omega)]
    subst e;refine Fn @results226 qOT51.1 ?_;try exact ⟨⟩
    exact app_row0 l (nwO o)
noncomputable def closeS (l:List Ord) (id:ByteArray):List Ord×Int :=
 if rightB l=false then (l,1)
 else if openI l id<0 then (l,6)
 else (l.set (openI l id).toNat (shut (l.getD (openI l id).toNat default)),0)
theorem close_c (l:List Ord) (id:ByteArray) (r:List Ord×Int) (hr:closeS l id=r) (h:l.length<=1000000):ACall prog 230 [] [osD l,SD id] (resD r) []:=by
 have ho:=openI_lt l id;refine Ac func230 ?_;refine Wk qOT51.1 (An (fun u1=>Zs (l.getD u1 default)) (An (fun u1 u2=>Zu (l.getD u1 default) u2) qOT52.1)) ?_;refine Cb ?_ ?_<;>intro hc<;>(try exact ⟨⟩)
 .refine Wk qOT51.1 (An (fun u1=>Zs (l.getD u1 default)) (An (fun u1 u2=>Zu (l.getD u1 default) u2) qOT52.1)) ?_;have e:r=(l,1):=by rw[<-hr,closeS,if_pos hc]
  subst e;refine Fn @results230 qOT51.1 ?_;try exact ⟨⟩
 .refine Wk qOT51.1 (An (fun u1=>Zs (l.getD u1 default)) (An (fun u1 u2=>Zu (l.getD u1 default) u2) qOT52.1)) ?_;refine Cb ?_ ?_<;>intro hc<;>(try exact ⟨⟩)
  .refine Wk qOT51.1 (An (fun u1=>Zs (l.getD u1 default)) (An (fun u1 u2=>Zu (l.getD u1 default) u2) qOT52.1)) ?_;have e:r=(l,6):=by rw[<-hr,closeS,if_neg (by simpa using ‹rightB l=true›),if_pos hc]
   subst e;refine Fn @results230 qOT51.1 ?_;try exact ⟨⟩
  .have hR:¬rightB l=false:=by simpa using ‹rightB l=true›
   refine Wk qOT51.1 (An (fun u1=>Zs (l.getD u1 default)) (An (fun u1 u2=>Zu (l.getD u1 default) u2) qOT52.1)) ?_;have e:r=(l.set (openI l id).toNat (shut (l.getD (openI l id).toNat default)),0):=by rw[<-hr,closeS,if_neg hR,if_neg hc]
   subst e;refine Fn @results230 qOT51.1 ?_;try exact ⟨⟩
   exact set_row l _ (shut (l.getD (openI l id).toNat default))
def flO (o:Ord) (q:Int):Ord:=⟨o.id,o.acc,o.sym,o.buy,o.qty,o.price,o.done+q,decide (o.done+q<o.qty)⟩
noncomputable def fillS (l:List Ord) (id:ByteArray) (qty price:Int):List Ord×Int :=
 if rightB l=false then (l,1)
 else if openI l id<0 then (l,6)
 else if qty<1\/leftI (l.getD (openI l id).toNat default)<qty then (l,1)
 else if fairB (l.getD (openI l id).toNat default) price=false then (l,9)
 else (l.set (openI l id).toNat (flO (l.getD (openI l id).toNat default) qty),0)
theorem leftI_le (o:Ord):leftI o<=1099511627776/\0<=leftI o/\(0<leftI o->0<=o.done/\o.done<=1099511627776):=by
 unfold leftI
 split
 .rename_i h;have:=mayB_spec h.1;omega
 .omega
theorem fill_c (l:List Ord) (id:ByteArray) (qty price:Int) (r:List Ord×Int) (hr:fillS l id qty price=r) (h:l.length<=1000000):ACall prog 265 [] [osD l,SD id,I qty,I price] (resD r) []:=by
 have ho:=openI_lt l id;have hle:=leftI_le (l.getD (openI l id).toNat default);refine Ac func265 ?_;refine Wk qOT51.1 (An (fun u1=>Zs (l.getD u1 default)) (An (fun u1 u2=>Zu (l.getD u1 default) u2) qOT52.1)) ?_;refine Cb ?_ ?_<;>intro hc<;>(try exact ⟨⟩)
 .refine Wk qOT51.1 (An (fun u1=>Zs (l.getD u1 default)) (An (fun u1 u2=>Zu (l.getD u1 default) u2) qOT52.1)) ?_;have e:r=(l,1):=by rw[<-hr,fillS,if_pos hc]
  subst e;refine Fn @results265 qOT51.1 ?_;try exact ⟨⟩
 .refine Wk qOT51.1 (An (fun u1=>Zs (l.getD u1 default)) (An (fun u1 u2=>Zu (l.getD u1 default) u2) qOT52.1)) ?_;refine Cb ?_ ?_<;>intro hc<;>(try exact ⟨⟩)
  .refine Wk qOT51.1 (An (fun u1=>Zs (l.getD u1 default)) (An (fun u1 u2=>Zu (l.getD u1 default) u2) qOT52.1)) ?_;have e:r=(l,6):=by rw[<-hr,fillS,if_neg (by simpa using ‹rightB l=true›),if_pos hc]
   subst e;refine Fn @results265 qOT51.1 ?_;try exact ⟨⟩
  .have hR:¬rightB l=false:=by simpa using ‹rightB l=true›
   have hO:¬openI l id<0:=hc;refine Wk qOT51.1 (An (fun u1=>Zs (l.getD u1 default)) (An (fun u1 u2=>Zu (l.getD u1 default) u2) qOT52.1)) ?_;refine Cb ?_ ?_<;>intro hc<;>(try exact ⟨⟩)
   .refine Wk qOT51.1 (An (fun u1=>Zs (l.getD u1 default)) (An (fun u1 u2=>Zu (l.getD u1 default) u2) qOT52.1)) ?_;have e:r=(l,1):=by rw[<-hr,fillS,if_neg hR,if_neg hO,if_pos (by omega)]
    subst e;refine Fn @results265 qOT51.1 ?_;try exact ⟨⟩
   .have hQ:¬(qty<1\/leftI (l.getD (openI l id).toNat default)<qty):=by omega
    refine Wk qOT51.1 (An (fun u1=>Zs (l.getD u1 default)) (An (fun u1 u2=>Zu (l.getD u1 default) u2) qOT52.1)) ?_;refine Cb ?_ ?_<;>intro hc<;>(try exact ⟨⟩)
    .refine Wk qOT51.1 (An (fun u1=>Zs (l.getD u1 default)) (An (fun u1 u2=>Zu (l.getD u1 default) u2) qOT52.1)) ?_;have e:r=(l,9):=by rw[<-hr,fillS,if_neg hR,if_neg hO,if_neg hQ,if_pos hc]
     subst e;refine Fn @results265 qOT51.1 ?_;try exact ⟨⟩
    .refine Wk qOT51.1 (An (fun u1=>Zs (l.getD u1 default)) (An (fun u1 u2=>Zu (l.getD u1 default) u2) qOT52.1)) ?_;have e:r=(l.set (openI l id).toNat (flO (l.getD (openI l id).toNat default) qty),0):=by rw[<-hr,fillS,if_neg hR,if_neg hO,if_neg hQ,if_neg (by rw[hc];simp)]
     subst e;refine Fn @results265 qOT51.1 ?_;try exact ⟨⟩
     exact set_row l _ (flO (l.getD (openI l id).toNat default) qty)
end NO
abbrev Ord:=NO.Ord
structure Exe where
 id:ByteArray
 ref:ByteArray
 ord:ByteArray
 acc:ByteArray
 sym:ByteArray
 kind:Int
 buy:Bool
 qty:Int
 price:Int
 time:Int
instance :Inhabited Exe:=⟨⟨⟨#[]⟩,⟨#[]⟩,⟨#[]⟩,⟨#[]⟩,⟨#[]⟩,0,false,0,0,0⟩⟩
structure Fil where
 id:ByteArray
 ord:ByteArray
 acc:ByteArray
 sym:ByteArray
 buy:Bool
 qty:Int
 price:Int
 time:Int
 lv:Bool
instance :Inhabited Fil:=⟨⟨⟨#[]⟩,⟨#[]⟩,⟨#[]⟩,⟨#[]⟩,false,0,0,0,false⟩⟩
structure Bk where
 ords:List Ord
 fills:List Fil
 ids:List ByteArray
 clock:Int
 bad:Int
instance :Inhabited Bk:=⟨⟨[],[],[],0,0⟩⟩
instance :Inhabited ByteArray:=⟨⟨#[]⟩⟩
abbrev vS (s:ByteArray):V:=.x (.string s)
abbrev vB (b:Bool):V:=.x (.bool b)
abbrev xC (x:Exe):List C:=[.v (vS x.id),.v (vS x.ref),.v (vS x.ord),.v (vS x.acc),.v (vS x.sym),.v (vI x.kind),.v (vB x.buy),.v (vI x.qty),.v (vI x.price),.v (vI x.time)]
abbrev xD (x:Exe):D:=.e (.a (xC x))
abbrev fV (f:Fil):List V:=[vS f.id,vS f.ord,vS f.acc,vS f.sym,vB f.buy,vI f.qty,vI f.price,vI f.time,vB f.lv]
abbrev fC (f:Fil):List C:=[.v (vS f.id),.v (vS f.ord),.v (vS f.acc),.v (vS f.sym),.v (vB f.buy),.v (vI f.qty),.v (vI f.price),.v (vI f.time),.v (vB f.lv)]
abbrev fD (f:Fil):D:=.e (.a (fC f))
abbrev fR (l:List Fil):List (List V):=l.map fun f=>[V.x (.string f.id),V.x (.string f.ord),V.x (.string f.acc),V.x (.string f.sym),V.x (.bool f.buy),V.x (.int .i64 f.qty),V.x (.int .i64 f.price),V.x (.int .i64 f.time),V.x (.bool f.lv)]
abbrev sR (l:List ByteArray):List (List V):=l.map fun s=>[V.x (.string s)]
theorem Z0 (l:List Fil) (i:Nat):(l.map fun f=>[V.x (.string f.id),V.x (.string f.ord),V.x (.string f.acc),V.x (.string f.sym),V.x (.bool f.buy),V.x (.int .i64 f.qty),V.x (.int .i64 f.price),V.x (.int .i64 f.time),V.x (.bool f.lv)]).getD i
 [V.x (.string ⟨#[]⟩),V.x (.string ⟨#[]⟩),V.x (.string ⟨#[]⟩),V.x (.string ⟨#[]⟩),V.x (.bool false),V.x (.int .i64 0),V.x (.int .i64 0),V.x (.int .i64 0),V.x (.bool false)] =
 [V.x (.string (l.getD i default).id),V.x (.string (l.getD i default).ord),V.x (.string (l.getD i default).acc),V.x (.string (l.getD i default).sym),V.x (.bool (l.getD i default).buy),V.x (.int .i64 (l.getD i default).qty),V.x (.int .i64 (l.getD i default).price),V.x (.int .i64 (l.getD i default).time),V.x (.bool (l.getD i default).lv)]:=by
 simp only[List.getD_eq_getElem?_getD,List.getElem?_map];cases l[i]?<;>rfl
theorem Zh (l:List ByteArray) (i:Nat):(l.map fun s=>[V.x (.string s)]).getD i [V.x (.string ⟨#[]⟩)]=[V.x (.string (l.getD i default))]:=by
 simp only[List.getD_eq_getElem?_getD,List.getElem?_map];cases l[i]?<;>rfl
abbrev fsV (l:List Fil):V:=.s 9 (fR l)
abbrev ssV (l:List ByteArray):V:=.s 1 (sR l)
abbrev fsD (l:List Fil):D:=.e (.c (.v (fsV l)))
abbrev ssD (l:List ByteArray):D:=.e (.c (.v (ssV l)))
abbrev StD (s:ByteArray):D:=.e (.c (.v (vS s)))
abbrev bkC (b:Bk):List C:=[.v (NO.osV b.ords),.v (fsV b.fills),.v (ssV b.ids),.v (vI b.clock),.v (vI b.bad)]
abbrev bkD (b:Bk):D:=.e (.a (bkC b))
def fstN {α:Type} (p:α->Bool):List α->Option Nat
 | []=>none
 | a::l=>if p a then some 0 else (fstN p l).map (·+1)
def fstI {α:Type} (p:α->Bool) (l:List α):Int:=match fstN p l with
 | some i=>i
 | none=>-1
theorem fstN_none {α:Type} [Inhabited α] {p:α->Bool}:∀ {l:List α},(∀i,i<l.length->p (l.getD i default)=false)->fstN p l=none
 | [],_=>rfl
 | o::l,h=>by
  have h0:=h 0 (by simp);simp only[List.getD_cons_zero]at h0;rw[fstN,if_neg (by rw[h0];simp),fstN_none (l:=l) fun i hi=>by have:=h (i+1) (by simpa using hi);simpa using this];rfl
theorem fstN_some {α:Type} [Inhabited α] {p:α->Bool}:∀ {l:List α} {k:Nat},k<l.length->(∀i,i<k->p (l.getD i default)=false)->p (l.getD k default)=true->fstN p l=some k
 | [],k,h,_,_=>by simp at h
 | o::l,0,_,_,h=>by
  simp only[List.getD_cons_zero]at h
  rw[fstN,if_pos h]
 | o::l,k+1,hk,h,he=>by
  have h0:=h 0 (by omega);simp only[List.getD_cons_zero]at h0;rw[fstN,if_neg (by rw[h0];simp),fstN_some (l:=l) (k:=k) (by simpa using hk) (fun i hi=>by have:=h (i+1) (by omega);simpa using this) (by simpa using he)];rfl
theorem fstN_spec {α:Type} [Inhabited α] {p:α->Bool}:∀ {l:List α} {k:Nat},fstN p l=some k->k<l.length/\(∀i,i<k->p (l.getD i default)=false)/\p (l.getD k default)=true
 | [],k,h=>by simp[fstN]at h
 | o::l,k,h=>by
  rw[fstN]at h
  split at h
  .rename_i h0;cases h;exact ⟨by simp,fun i hi=>by omega,by simpa using h0⟩
  .rename_i h0;simp only[Option.map_eq_some_iff]at h;obtain ⟨j,hj,rfl⟩:=h;obtain ⟨h1,h2,h3⟩:=fstN_spec hj;refine ⟨by simp;omega,fun i hi=>?_,by simpa using h3⟩
   cases i with
   | zero=>simpa using h0
   | succ i=>simpa using h2 i (by omega)
theorem fstI_some {α:Type} [Inhabited α] {p:α->Bool} {l:List α} {k:Nat} (hk:k<l.length) (h:∀i,i<k->p (l.getD i default)=false) (he:p (l.getD k default)=true):fstI p l=k:=by rw[fstI,fstN_some hk h he]
theorem fstI_none {α:Type} [Inhabited α] {p:α->Bool} {l:List α} (h:∀i,i<l.length->p (l.getD i default)=false):fstI p l=-1:=by rw[fstI,fstN_none h]
theorem fstI_lt {α:Type} [Inhabited α] (p:α->Bool) (l:List α):-1<=fstI p l/\fstI p l<l.length:=by
 unfold fstI
 split
 .rename_i i h;have:=(fstN_spec h).1;omega
 .omega
theorem fstI_any {α:Type} (p:α->Bool):∀l:List α,decide (0<=fstI p l)=l.any p
 | []=>by simp[fstI,fstN]
 | a::l=>by
  have ih:=fstI_any p l;unfold fstI at ih ⊢;rw[fstN,List.any_cons]
  cases h:p a with
  | true=>simp
  | false =>
   rw[if_neg (by simp),Bool.false_or,<-ih]
   cases fstN p l with
   | none=>rfl
   | some k =>
    simp only[Option.map_some];rw[decide_eq_true (by omega),decide_eq_true (by omega)]
def qBA1:=PLift.up (An @getD_mapD (An @Z0 @Zh))
theorem amount_c (n:Int):ACall prog 104 [] [I n] (B (NO.amountB n)) []:=by
 refine Ac func104 ?_;refine Wk qBA1.1 trivial ?_;refine Fn @results104 qBA1.1 ?_;try exact ⟨⟩
 rfl
def fairB (o:Ord) (b:Bool) (p:Int):Bool:=NO.amountB p && (if b then decide (p<=o.price) else decide (o.price<=p))
theorem bfair_c (o:Ord) (b:Bool) (p:Int) (r:Bool) (hr:fairB o b p=r):ACall prog 264 [] [NO.oD o,B b,I p] (B r) []:=by
 subst hr;refine Ac func264 ?_;cases b
 .refine Wk qBA1.1 @amount_c ?_;refine Cb ?_ ?_<;>intro hc<;>(try exact ⟨⟩)
  .contradiction
  .refine Wk qBA1.1 @amount_c ?_;refine Fn @results264 qBA1.1 ?_;try exact ⟨⟩
   rfl
 .refine Wk qBA1.1 @amount_c ?_;refine Cb ?_ ?_<;>intro hc<;>(try exact ⟨⟩)
  .refine Wk qBA1.1 @amount_c ?_;refine Fn @results264 qBA1.1 ?_;try exact ⟨⟩
   rfl
  .contradiction
theorem zBA1 {R G:Prop} (k:R) (h:Box R->G:=by
 intro k;simp (disch:=omega) only[↓reduceIte,Zo,backT,pos,idsB,idsC,nodup,live,makeSliceE,viewE,viewFE,appendUE,appendFE,capFE,copyE,copySrc,clearE,guardB,isNilOp,nilS,withTy,splice,lenE,appendE,sliceE,boundE,indexAddrE,indexE,buildE,fillE,buildSliceE,partsE,builtinE,minE,minI,convE,convHE,appendNE,capE,D.x,id_eq,eq_self,if_true,if_false,ne_eq,implies_true,Nat.reduceAdd,Nat.reduceMul,Nat.reduceSub,Nat.reduceEqDiff,Nat.reduceLT,Nat.reduceLeDiff,reduceCtorEq,getD_mapD,Z0,Zh,Zp,forall_const,Nat.reduceBEq,Int.reduceEq,Int.reduceToNat,bne_self_eq_false,true_and,tyAll]
 all_goals exact k.out):G:=h ⟨k⟩
theorem cloneF_c (l:List Fil) (h:l.length<=1000000):ACall prog 86 [] [fsD l] (.e (.c (.o 0 l.length))) [.row 9 (fR l)]:=by
 refine Ac func86 ?_
 repeat' (first|((fail_if_success clear hK);change AWp _ _ _ _ _ _;first|refine AWp.seq ?_|refine AWp.text (own:=nO) tG_ok (by kernel_rfl) (fun K hK=>?_)|refine AWp.draw (own:=nO) tG_ok mixed (by kernel_rfl) (by kernel_rfl) (fun K hK=>?_)|refine AWp.skip ?_|refine AWp.ret ?_|refine AWp.exit ?_|refine AWp.label ?_|refine AWp.block ?_)|(revert hK;intro hK;first|(with_reducible refine hK _ _ _ ?_;clear hK K)|(with_reducible refine hK _ _ _ ?_ ?_;(focus kernel_rfl);clear hK K)|((with_reducible change CallS _ _ _ _ _ _);(first|refine CallS.of (amount_c _) ?_))|(with_reducible refine And.intro ?_ ?_)|((first|exact zBA1 trivial|refine zBA1 ?_))|(first|omega|(intro hq;(try simp only[Zf,ne_eq,Bool.not_not,Bool.and_true]at hq);first|omega|assumption|(simp_all;done))|(simp_all;done))|(intro (bn:Bool) hbn)))
 refine Cb ?_ ?_<;>intro hc<;>(try exact ⟨⟩)
 .repeat' (first|((fail_if_success clear hK);change AWp _ _ _ _ _ _;first|refine AWp.seq ?_|refine AWp.text (own:=nO) tG_ok (by kernel_rfl) (fun K hK=>?_)|refine AWp.draw (own:=nO) tG_ok mixed (by kernel_rfl) (by kernel_rfl) (fun K hK=>?_)|refine AWp.skip ?_|refine AWp.ret ?_|refine AWp.exit ?_|refine AWp.label ?_|refine AWp.block ?_)|(revert hK;intro hK;first|(with_reducible refine hK _ _ _ ?_;clear hK K)|(with_reducible refine hK _ _ _ ?_ ?_;(focus kernel_rfl);clear hK K)|((with_reducible change CallS _ _ _ _ _ _);(first|refine CallS.of (amount_c _) ?_))|(with_reducible refine And.intro ?_ ?_)|((first|exact zBA1 trivial|refine zBA1 ?_))|(first|omega|(intro hq;(try simp only[Zf,ne_eq,Bool.not_not,Bool.and_true]at hq);first|omega|assumption|(simp_all;done))|(simp_all;done))|(intro (bn:Bool) hbn)))
  subst hc;have e:l=[]:=by simpa using hbn rfl
  subst e;refine Fs @results86 ?_;refine ⟨[],[],[0],by kernel_rfl,?_,?_⟩<;>((refine Lw qBA1.1 ?_;try exact ⟨⟩);try rfl)
 .repeat' (first|((fail_if_success clear hK);change AWp _ _ _ _ _ _;first|refine AWp.seq ?_|refine AWp.text (own:=nO) tG_ok (by kernel_rfl) (fun K hK=>?_)|refine AWp.draw (own:=nO) tG_ok mixed (by kernel_rfl) (by kernel_rfl) (fun K hK=>?_)|refine AWp.skip ?_|refine AWp.ret ?_|refine AWp.exit ?_|refine AWp.label ?_|refine AWp.block ?_)|(revert hK;intro hK;first|(with_reducible refine hK _ _ _ ?_;clear hK K)|(with_reducible refine hK _ _ _ ?_ ?_;(focus kernel_rfl);clear hK K)|((with_reducible change CallS _ _ _ _ _ _);(first|refine CallS.of (amount_c _) ?_))|(with_reducible refine And.intro ?_ ?_)|((first|exact zBA1 trivial|refine zBA1 ?_))|(first|omega|(intro hq;(try simp only[Zf,ne_eq,Bool.not_not,Bool.and_true]at hq);first|omega|assumption|(simp_all;done))|(simp_all;done))|(intro (bn:Bool) hbn)))
  refine Fs @results86 ?_;refine ⟨[320],[(0,320)],[],by kernel_rfl,?_,?_⟩<;>((refine Lw qBA1.1 ?_;try exact ⟨⟩);try omega)
theorem cloneS_c (l:List ByteArray) (h:l.length<=1000000):ACall prog 87 [] [ssD l] (.e (.c (.o 0 l.length))) [.row 1 (sR l)]:=by
 refine Ac func87 ?_
 repeat' (first|((fail_if_success clear hK);change AWp _ _ _ _ _ _;first|refine AWp.seq ?_|refine AWp.text (own:=nO) tG_ok (by kernel_rfl) (fun K hK=>?_)|refine AWp.draw (own:=nO) tG_ok mixed (by kernel_rfl) (by kernel_rfl) (fun K hK=>?_)|refine AWp.skip ?_|refine AWp.ret ?_|refine AWp.exit ?_|refine AWp.label ?_|refine AWp.block ?_)|(revert hK;intro hK;first|(with_reducible refine hK _ _ _ ?_;clear hK K)|(with_reducible refine hK _ _ _ ?_ ?_;(focus kernel_rfl);clear hK K)|((with_reducible change CallS _ _ _ _ _ _);(first|refine CallS.of (amount_c _) ?_))|(with_reducible refine And.intro ?_ ?_)|((first|exact zBA1 trivial|refine zBA1 ?_))|(first|omega|(intro hq;(try simp only[Zf,ne_eq,Bool.not_not,Bool.and_true]at hq);first|omega|assumption|(simp_all;done))|(simp_all;done))|(intro (bn:Bool) hbn)))
 refine Cb ?_ ?_<;>intro hc<;>(try exact ⟨⟩)
 .repeat' (first|((fail_if_success clear hK);change AWp _ _ _ _ _ _;first|refine AWp.seq ?_|refine AWp.text (own:=nO) tG_ok (by kernel_rfl) (fun K hK=>?_)|refine AWp.draw (own:=nO) tG_ok mixed (by kernel_rfl) (by kernel_rfl) (fun K hK=>?_)|refine AWp.skip ?_|refine AWp.ret ?_|refine AWp.exit ?_|refine AWp.label ?_|refine AWp.block ?_)|(revert hK;intro hK;first|(with_reducible refine hK _ _ _ ?_;clear hK K)|(with_reducible refine hK _ _ _ ?_ ?_;(focus kernel_rfl);clear hK K)|((with_reducible change CallS _ _ _ _ _ _);(first|refine CallS.of (amount_c _) ?_))|(with_reducible refine And.intro ?_ ?_)|((first|exact zBA1 trivial|refine zBA1 ?_))|(first|omega|(intro hq;(try simp only[Zf,ne_eq,Bool.not_not,Bool.and_true]at hq);first|omega|assumption|(simp_all;done))|(simp_all;done))|(intro (bn:Bool) hbn)))
  subst hc;have e:l=[]:=by simpa using hbn rfl
  subst e;refine Fs @results87 ?_;refine ⟨[],[],[0],by kernel_rfl,?_,?_⟩<;>((refine Lw qBA1.1 ?_;try exact ⟨⟩);try rfl)
 .repeat' (first|((fail_if_success clear hK);change AWp _ _ _ _ _ _;first|refine AWp.seq ?_|refine AWp.text (own:=nO) tG_ok (by kernel_rfl) (fun K hK=>?_)|refine AWp.draw (own:=nO) tG_ok mixed (by kernel_rfl) (by kernel_rfl) (fun K hK=>?_)|refine AWp.skip ?_|refine AWp.ret ?_|refine AWp.exit ?_|refine AWp.label ?_|refine AWp.block ?_)|(revert hK;intro hK;first|(with_reducible refine hK _ _ _ ?_;clear hK K)|(with_reducible refine hK _ _ _ ?_ ?_;(focus kernel_rfl);clear hK K)|((with_reducible change CallS _ _ _ _ _ _);(first|refine CallS.of (amount_c _) ?_))|(with_reducible refine And.intro ?_ ?_)|((first|exact zBA1 trivial|refine zBA1 ?_))|(first|omega|(intro hq;(try simp only[Zf,ne_eq,Bool.not_not,Bool.and_true]at hq);first|omega|assumption|(simp_all;done))|(simp_all;done))|(intro (bn:Bool) hbn)))
  refine Fs @results87 ?_;refine ⟨[320],[(0,320)],[],by kernel_rfl,?_,?_⟩<;>((refine Lw qBA1.1 ?_;try exact ⟨⟩);try omega)
abbrev eqB (s x:ByteArray):Bool:=s.data.toList == x.data.toList
theorem indexS_c (l:List ByteArray) (s:ByteArray) (hl:l.length<=1000000):ACall prog 225 [] [ssD l,StD s] (I (fstI (eqB s) l)) []:=by
 refine Ac func225 ?_;refine Wk qBA1.1 @amount_c ?_;refine AWp.loop (fun k:Nat=>mkSt [(0,ssD l),(1,StD s),(7,I l.length),(8,I k)] [] 0) (fun k=>k<=l.length/\∀i,i<k->eqB s (l.getD i default)=false) (fun k=>l.length - k) 0 ⟨Nat.zero_le _,fun i hi=>by omega⟩ (by refine Le.of (τ:=[]) (ν:=[]) (by kernel_rfl) ?_ ?_<;>((refine Lw qBA1.1 ?_;try exact ⟨⟩);try omega)) fun k hk=>?_;obtain ⟨hk,ho⟩:=hk;refine Wk qBA1.1 @amount_c ?_;refine Cb ?_ ?_<;>intro hc<;>(try exact ⟨⟩)
 .refine Wk qBA1.1 @amount_c ?_;refine Cb ?_ ?_<;>intro hc<;>(try exact ⟨⟩)
  .refine Wk qBA1.1 @amount_c ?_;have e:fstI (eqB s) l=k:=fstI_some (by omega) ho (beq_iff_eq.2 hc);rw[e];refine Fn @results225 qBA1.1 ?_;try exact ⟨⟩
  .refine Wk qBA1.1 @amount_c ?_;refine Za (k+1) ⟨by omega,fun i hi=>?_⟩ (by omega) (by refine Le.of (τ:=[]) (ν:=[]) (by kernel_rfl) ?_ ?_<;>((refine Lw qBA1.1 ?_;try exact ⟨⟩);try omega));by_cases e:i=k
   .subst e;simpa using hc
   .exact ho i (by omega)
 .refine Wk qBA1.1 @amount_c ?_;have e:fstI (eqB s) l=-1:=fstI_none fun i hi=>ho i (by omega);rw[e];refine Fn @results225 qBA1.1 ?_;try exact ⟨⟩
theorem containsS_c (l:List ByteArray) (s:ByteArray) (hl:l.length<=1000000) (r:Bool) (hr:l.any (eqB s)=r):ACall prog 182 [] [ssD l,StD s] (B r) []:=by
 subst hr;rw[<-fstI_any];refine Ac func182 ?_;refine Wk qBA1.1 @indexS_c ?_;refine Fn @results182 qBA1.1 ?_;try exact ⟨⟩
theorem amend1_c (f:Fil) (x:Exe):ACall prog 263 [] [fD f,.q [vS x.id,vS x.ref,vS x.ord,vS x.acc,vS x.sym,vI x.kind,vB x.buy,vI x.qty,vI x.price,vI x.time]] (B (eqB f.id x.ref)) []:=by
 refine Ac func263 ?_;refine Wk qBA1.1 @indexS_c ?_;refine Fn @results263 qBA1.1 ?_;try exact ⟨⟩
abbrev xcap (x:Exe):List V:=[vS x.id,vS x.ref,vS x.ord,vS x.acc,vS x.sym,vI x.kind,vB x.buy,vI x.qty,vI x.price,vI x.time]
def refI (l:List Fil) (x:Exe):Int:=fstI (fun f:Fil=>eqB f.id x.ref) l
theorem indexF_c (l:List Fil) (x:Exe) (hl:l.length<=1000000):ACall prog 262 [] [fsD l,.e (.c (.v (.f 263 [xcap x])))] (I (refI l x)) []:=by
 refine Ac func262 ?_;refine Wk qBA1.1 (fun u1=>amend1_c u1 x) ?_;refine AWp.loop (fun k:Nat=>mkSt [(0,fsD l),(1,.e (.c (.v (.f 263 [xcap x])))),(7,I l.length),(8,I k)] [] 0) (fun k=>k<=l.length/\∀i,i<k->eqB (l.getD i default).id x.ref=false) (fun k=>l.length - k) 0 ⟨Nat.zero_le _,fun i hi=>by omega⟩ (by refine Le.of (τ:=[]) (ν:=[]) (by kernel_rfl) ?_ ?_<;>((refine Lw qBA1.1 ?_;try exact ⟨⟩);try omega)) fun k hk=>?_;obtain ⟨hk,ho⟩:=hk;refine Wk qBA1.1 (fun u1=>amend1_c u1 x) ?_;refine Cb ?_ ?_<;>intro hc<;>(try exact ⟨⟩)
 .refine Wk qBA1.1 (fun u1=>amend1_c u1 x) ?_;refine Cb ?_ ?_<;>intro hc<;>(try exact ⟨⟩)
  .refine Wk qBA1.1 (fun u1=>amend1_c u1 x) ?_;have e:refI l x=k:=fstI_some (by omega) ho (beq_iff_eq.2 hc);rw[e];refine Fn @results262 qBA1.1 ?_;try exact ⟨⟩
  .refine Wk qBA1.1 (fun u1=>amend1_c u1 x) ?_;refine Za (k+1) ⟨by omega,fun i hi=>?_⟩ (by omega) (by refine Le.of (τ:=[]) (ν:=[]) (by kernel_rfl) ?_ ?_<;>((refine Lw qBA1.1 ?_;try exact ⟨⟩);try omega));by_cases e:i=k
   .subst e;simpa using hc
   .exact ho i (by omega)
 .refine Wk qBA1.1 (fun u1=>amend1_c u1 x) ?_;have e:refI l x=-1:=fstI_none fun i hi=>ho i (by omega);rw[e];refine Fn @results262 qBA1.1 ?_;try exact ⟨⟩
namespace NA
theorem Z9 (a b:ByteArray):binS .gtr a b=.ret (.e (.c (.v (.x (.bool (!(Op.bytesLess a.data.toList b.data.toList || a.data.toList == b.data.toList)))))),[]):=rfl
abbrev SD (s:ByteArray):D:=.e (.c (.v (.x (.string s))))
theorem isNaN_c (s:ByteArray):ACall prog 109 [] [SD s] (B false) []:=by
 have hcl:True:=trivial;refine Ac func109 ?_;refine Wk (An @hcl @Z9) trivial ?_;refine Fn @results109 (An @hcl @Z9) ?_;try exact ⟨⟩
def cmpS (a b:ByteArray):Int:=if Op.bytesLess a.data.toList b.data.toList=true then -1 else if (!(Op.bytesLess a.data.toList b.data.toList || a.data.toList == b.data.toList))=true then 1 else 0
theorem cmpS_c (a b:ByteArray):ACall prog 39 [] [SD a,SD b] (I (cmpS a b)) []:=by
 have hcl:True:=trivial;refine Ac func39 ?_;refine Wk (An @hcl @Z9) @isNaN_c ?_;refine Cb ?_ ?_<;>intro hc<;>(try exact ⟨⟩)
 .contradiction
 .refine Wk (An @hcl @Z9) @isNaN_c ?_;refine Cb ?_ ?_<;>intro hc<;>(try exact ⟨⟩)
  .contradiction
  .refine Wk (An @hcl @Z9) @isNaN_c ?_
   (try change AWp _ _ _ _ _ _);refine AWp.cond (by exact rfl) (fun hc=>?_) (fun hc=>?_)
   .refine Wk (An @hcl @Z9) @isNaN_c ?_;refine Fn @results39 (An @hcl @Z9) ?_;try exact ⟨⟩
    rw[cmpS,if_pos hc]
   .refine Wk (An @hcl @Z9) @isNaN_c ?_
    (try change AWp _ _ _ _ _ _);refine AWp.cond (by exact rfl) (fun hc2=>?_) (fun hc2=>?_)
    .refine Wk (An @hcl @Z9) @isNaN_c ?_;refine Fn @results39 (An @hcl @Z9) ?_;try exact ⟨⟩
     rw[cmpS,if_neg (by rw[hc];decide),if_pos hc2]
    .refine Wk (An @hcl @Z9) @isNaN_c ?_;refine Fn @results39 (An @hcl @Z9) ?_;try exact ⟨⟩
     rw[cmpS,if_neg (by rw[hc];decide),if_neg (by rw[hc2];decide)]
theorem bl_irr (a:List UInt8):Op.bytesLess a a=false:=by
 induction a with
 | nil=>rfl
 | cons x xs ih=>simp[Op.bytesLess,ih]
theorem bl_trans (a b c:List UInt8) (h1:Op.bytesLess a b=true) (h2:Op.bytesLess b c=true):Op.bytesLess a c=true:=by
 induction a generalizing b c with
 | nil =>
  cases b with
  | nil=>exact h2
  | cons y ys =>
   cases c with
   | nil=>simp[Op.bytesLess]at h2
   | cons z zs=>simp[Op.bytesLess]
 | cons x xs ih =>
  cases b with
  | nil=>simp[Op.bytesLess]at h1
  | cons y ys =>
   cases c with
   | nil=>simp[Op.bytesLess]at h2
   | cons z zs =>
    simp only[Op.bytesLess,Bool.or_eq_true,Bool.and_eq_true,decide_eq_true_eq,beq_iff_eq]at h1 h2 ⊢;rcases h1 with h1|⟨rfl,h1⟩
    .rcases h2 with h2|⟨rfl,h2⟩
     .exact .inl (UInt8.lt_trans h1 h2)
     .exact .inl h1
    .rcases h2 with h2|⟨rfl,h2⟩
     .exact .inl h2
     .exact .inr ⟨rfl,ih _ _ h1 h2⟩
theorem bl_total (a b:List UInt8):Op.bytesLess a b=true\/a=b\/Op.bytesLess b a=true:=by
 induction a generalizing b with
 | nil=>cases b with
  | nil=>exact .inr (.inl rfl)
  | cons y ys=>exact .inl (by simp[Op.bytesLess])
 | cons x xs ih=>cases b with
  | nil=>exact .inr (.inr (by simp[Op.bytesLess]))
  | cons y ys =>
   simp only[Op.bytesLess,Bool.or_eq_true,Bool.and_eq_true,decide_eq_true_eq,beq_iff_eq];by_cases hxy:x=y
   .subst hxy;rcases ih ys with h|rfl|h
    .exact .inl (.inr ⟨rfl,h⟩)
    .exact .inr (.inl rfl)
    .exact .inr (.inr (.inr ⟨rfl,h⟩))
   .rcases UInt8.lt_or_lt_of_ne hxy with h|h
    .exact .inl (.inl h)
    .exact .inr (.inr (.inl h))
theorem bl_asym (a b:List UInt8) (h:Op.bytesLess a b=true):Op.bytesLess b a=false:=by
 cases hb:Op.bytesLess b a with
 | false=>rfl
 | true =>
  have:=bl_trans a b a h hb;rw[bl_irr]at this;cases this
theorem ba_eq {a b:ByteArray} (h:a.data.toList=b.data.toList):a=b:=by
 cases a with|mk a=>cases b with|mk b=>cases a;cases b;simp_all
theorem cmpS_lt {a b:ByteArray}:cmpS a b<0↔Op.bytesLess a.data.toList b.data.toList=true:=by
 unfold cmpS;by_cases h:Op.bytesLess a.data.toList b.data.toList=true
 .rw[if_pos h];simp[h]
 .rw[if_neg h];split<;>simp[h]
theorem Z5 {a b:ByteArray}:cmpS a b=0↔a=b:=by
 unfold cmpS;constructor
 .intro h
  split at h
  .cases h
  .rename_i h1
   split at h
   .cases h
   .rename_i h2;simp only[Bool.not_eq_true',Bool.not_eq_false,Bool.or_eq_true,beq_iff_eq]at h2;rcases h2 with h2|h2
    .exact absurd h2 h1
    .exact ba_eq h2
 .rintro rfl;rw[if_neg (by rw[bl_irr];decide),if_neg (by simp)]
theorem cmpS_cases (a b:ByteArray):(cmpS a b=-1/\cmpS b a=1)\/(cmpS a b=0/\a=b)\/(cmpS a b=1/\cmpS b a=-1):=by
 rcases bl_total a.data.toList b.data.toList with h|h|h
 .left;have h2:=bl_asym _ _ h;unfold cmpS;rw[if_pos h,if_neg (by rw[h2];decide),if_pos]
  .exact ⟨rfl,rfl⟩
  .rw[h2,Bool.false_or,Bool.not_eq_true',beq_eq_false_iff_ne];intro e;rw[e,bl_irr]at h;cases h
 .have:=ba_eq h;exact .inr (.inl ⟨Z5.2 this,this⟩)
 .right;right;have h2:=bl_asym _ _ h;unfold cmpS;rw[if_neg (by rw[h2];decide),if_pos h,if_pos]
  .exact ⟨rfl,rfl⟩
  .rw[h2,Bool.false_or,Bool.not_eq_true',beq_eq_false_iff_ne];intro e;rw[e,bl_irr]at h;cases h
abbrev fD (f:Nat):D:=.e (.c (.v (.x (.func (.func f) #[] #[]))))
theorem evO_f (En:Nat->D) (f:Nat):evO En (.func f)=.e (.c (.v (.x (.func (.func f) #[] #[])))):=rfl
theorem mid_eq (lo hi:Nat) (h:lo+hi<=4000000):IntKind.i64.wrap ((IntKind.u64.wrap ((lo:Int)+(hi:Int))).fdiv (2 ^ min 1 IntKind.u64.bits))=(((lo+hi) / 2:Nat):Int):=by
 have:(2:Int) ^ (min 1 IntKind.u64.bits)=2:=by decide
 rw[this,wrap_u64 _ (by omega) (by omega),Int.fdiv_eq_ediv_of_nonneg _ (by omega),Zn _ (by omega) (by omega)];omega
end NA
def twB (l:List ByteArray):Bool:=(List.range l.length).any fun i=>decide (1<=i) && ((l.getD i default).data.toList == (l.getD (i - 1) default).data.toList)
def qBB1:=PLift.up (An @Zh @NA.Z9)
theorem twice_c (l:List ByteArray) (hl:l.length<=1000000) (r:Bool) (hr:twB l=r):ACall prog 103 [] [ssD l] (B r) []:=by
 refine Ac func103 ?_;refine Wk qBB1.1 trivial ?_;refine AWp.loop (fun k:Nat=>mkSt [(0,ssD l),(3,I k)] [] 0) (fun k=>1<=k/\∀i,1<=i->i<k->(l.getD i default).data.toList≠(l.getD (i - 1) default).data.toList) (fun k=>l.length - k) 1 ⟨Nat.le_refl _,fun i h1 h2=>by omega⟩ (by refine Le.of (τ:=[]) (ν:=[]) (by kernel_rfl) ?_ ?_<;>((refine Lw qBB1.1 ?_;try exact ⟨⟩);try omega)) fun k hk=>?_;obtain ⟨hk,ho⟩:=hk;refine Wk qBB1.1 trivial ?_;refine Cb ?_ ?_<;>intro hc<;>(try exact ⟨⟩)
 .refine Wk qBB1.1 trivial ?_;refine Cb ?_ ?_<;>intro hc<;>(try exact ⟨⟩)
  .have e:r=true:=by
    rw[<-hr,twB,List.any_eq_true];refine ⟨k,List.mem_range.2 (by omega),?_⟩;have e1:((k:Int) - 1).toNat=k - 1:=by omega
    rw[decide_eq_true hk,Bool.true_and,beq_iff_eq];simpa[e1] using hc
   subst e;refine Wk qBB1.1 trivial ?_;refine Fn @results103 qBB1.1 ?_;try exact ⟨⟩
  .refine Wk qBB1.1 trivial ?_;refine Za (k+1) ⟨by omega,fun i h1 h2=>?_⟩ (by omega) (by refine Le.of (τ:=[]) (ν:=[]) (by kernel_rfl) ?_ ?_<;>((refine Lw qBB1.1 ?_;try exact ⟨⟩);try omega));by_cases e:i=k
   .subst e;have e1:((i:Int) - 1).toNat=i - 1:=by omega
    simpa[e1] using hc
   .exact ho i h1 (by omega)
 .have e:r=false:=by
   rw[<-hr,twB,List.any_eq_false];intro i hi;have hi:=List.mem_range.1 hi;rw[Bool.and_eq_true,decide_eq_true_eq,beq_iff_eq];rintro ⟨h1,h2⟩;exact ho i h1 (by omega) h2
  subst e;refine Wk qBB1.1 trivial ?_;refine Fn @results103 qBB1.1 ?_;try exact ⟨⟩
theorem nanS_c (s:ByteArray):ACall prog 161 [] [StD s] (B false) []:=by
 refine Ac func161 ?_;refine Wk qBB1.1 trivial ?_;refine Fn @results161 qBB1.1 ?_;try exact ⟨⟩
def ltB (a b:ByteArray):Bool:=Op.bytesLess a.data.toList b.data.toList
theorem lessS_c (a b:ByteArray):ACall prog 160 [] [StD a,StD b] (B (ltB a b)) []:=by
 refine Ac func160 ?_;refine Wk qBB1.1 @NA.isNaN_c ?_;refine Fn @results160 qBB1.1 ?_;try exact ⟨⟩
 rfl
def qBB2:=PLift.up (An @lessS_c @nanS_c)
theorem searchS_c (l:List ByteArray) (x:ByteArray) (hl:l.length<=1000000) (n:Nat) (hn:n<=l.length) (h1:∀j,j<n->ltB (l.getD j default) x=true) (h2:∀j,n<=j->j<l.length->ltB (l.getD j default) x=false) :
 ACall prog 105 [] [ssD l,StD x] (.t [.c (.v (vI n)),.c (.v (.x (.bool (decide (n<l.length) && eqB (l.getD n default) x))))]) []:=by
 have hmid:True:=trivial;refine Ac func105 ?_;refine Wk (An @hmid @Zh) qBB2.1 ?_;refine AWp.loop (fun s:Nat×Nat=>mkSt [(0,ssD l),(1,StD x),(6,I l.length),(7,I s.1),(8,I s.2)] [] 0) (fun s=>s.1<=n/\n<=s.2/\s.2<=l.length) (fun s=>s.2 - s.1) (0,l.length) ⟨Nat.zero_le _,hn,Nat.le_refl _⟩ (by refine Le.of (τ:=[]) (ν:=[]) (by kernel_rfl) ?_ ?_<;>((refine Lw (An @hmid @Zh) ?_;try exact ⟨⟩);try rfl)) fun s hi=>?_;obtain ⟨lo,hi'⟩:=s;obtain ⟨ha,hb,hcc⟩:=hi;dsimp only at ha hb hcc ⊢;refine Wk (An @hmid @Zh) qBB2.1 ?_;refine Cb ?_ ?_<;>intro hc<;>(try exact ⟨⟩)
 .have hmid:=NA.mid_eq lo hi' (by omega);have hm1:lo<=(lo+hi') / 2:=by omega
  have hm2:(lo+hi') / 2<hi':=by omega
  generalize (lo+hi') / 2=m at hmid hm1 hm2;refine Wk (An @hmid @Zh) qBB2.1 ?_;refine Cb ?_ ?_<;>intro hc<;>(try exact ⟨⟩)
  .have hlt:ltB (l.getD m default) x=true:=hc
   have hmn:m<n:=by
    rcases Nat.lt_or_ge m n with h|h
    .exact h
    .rw[h2 m h (by omega)]at hlt;cases hlt
   refine Wk (An @hmid @Zh) qBB2.1 ?_;refine Za (m+1,hi') ⟨by dsimp only;omega,by dsimp only;omega,by dsimp only;omega⟩ (by dsimp only;omega) (by refine Le.of (τ:=[]) (ν:=[]) (by kernel_rfl) ?_ ?_<;>((refine Lw (An @hmid @Zh) ?_;try exact ⟨⟩);try omega))
  .have hge:ltB (l.getD m default) x=false:=hc
   have hmn:n<=m:=by
    rcases Nat.lt_or_ge m n with h|h
    .rw[h1 m h]at hge;cases hge
    .exact h
   refine Wk (An @hmid @Zh) qBB2.1 ?_;refine Za (lo,m) ⟨by dsimp only;omega,by dsimp only;omega,by dsimp only;omega⟩ (by dsimp only;omega) (by refine Le.of (τ:=[]) (ν:=[]) (by kernel_rfl) ?_ ?_<;>((refine Lw (An @hmid @Zh) ?_;try exact ⟨⟩);try omega))
 .obtain rfl:lo=n:=by omega
  have hmid:True:=trivial;refine Wk (An @hmid @Zh) qBB2.1 ?_;refine Fn @results105 (An @hmid @Zh) ?_;try exact ⟨⟩
  show (decide (lo<l.length) && eqB (l.getD lo default) x)=(decide ((lo:Int)<(l.length:Int)) && ((l.getD lo default).data.toList == x.data.toList));rw[Bool.eq_iff_iff];simp only[Bool.and_eq_true,decide_eq_true_eq,beq_iff_eq,Int.ofNat_lt]
end Eng
end Go.Proofs.YtgenjpingdkmgaaGreatDoor
