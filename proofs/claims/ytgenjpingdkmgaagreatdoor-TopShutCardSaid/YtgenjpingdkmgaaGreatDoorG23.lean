/- Contracts of functions that this seat's law calls. No condition. -/
import Derived.Shelf.Strings.OnBuilder
import Derived.Test.YtgenjpingdkmgaaGreatDoorG22
set_option maxRecDepth 100000
set_option linter.unusedSimpArgs false
set_option linter.unusedVariables false
open Go.Proofs.Tryz
namespace Go.Proofs.YtgenjpingdkmgaaGreatDoor
def layJoin_ren:Go.Shelf.Ren:=⟨fun|156=>240|165=>273|166=>274|169=>275|240=>303|241=>304|276=>331|277=>332|n=>n,fun|0=>0|2=>2|3=>3|4=>4|5=>5|9=>9|20=>20|31=>56|37=>24|70=>368|72=>370|75=>365|76=>371|127=>392|164=>414|80=>373|n=>n,fun|n=>n⟩
theorem layJoin:Lays.n156 prog layJoin_ren where
 mixed:=by kernel_rfl
 f156:=func240.trans (congrArg some (by kernel_rfl))
 f165:=func273.trans (congrArg some (by kernel_rfl))
 f166:=func274.trans (congrArg some (by kernel_rfl))
 f169:=func275.trans (congrArg some (by kernel_rfl))
 f240:=func303.trans (congrArg some (by kernel_rfl))
 f241:=func304.trans (congrArg some (by kernel_rfl))
 f276:=func331.trans (congrArg some (by kernel_rfl))
 f277:=func332.trans (congrArg some (by kernel_rfl))
 t0:=underlying0
 a0:=isAgg0
 z0:=sizeOf0
 v0:=zeroValue0
 t3:=underlying3
 a3:=isAgg3
 z3:=sizeOf3
 v3:=zeroValue3
 t4:=underlying4
 a4:=isAgg4
 z4:=sizeOf4
 v4:=zeroValue4
 t9:=underlying9
 a9:=isAgg9
 z9:=sizeOf9
 v9:=zeroValue9
 t20:=underlying20
 a20:=isAgg20
 z20:=sizeOf20
 v20:=zeroValue20
 t31:=underlying56
 a31:=isAgg56
 z31:=sizeOf56
 v31:=zeroValue56
 t37:=underlying24
 a37:=isAgg24
 z37:=sizeOf24
 v37:=zeroValue24
 t70:=underlying368
 a70:=isAgg368
 z70:=sizeOf368
 v70:=zeroValue368
 t72:=underlying370
 a72:=isAgg370
 z72:=sizeOf370
 v72:=zeroValue370
 t75:=underlying365
 a75:=isAgg365
 z75:=sizeOf365
 v75:=zeroValue365
 t76:=underlying371
 a76:=isAgg371
 z76:=sizeOf371
 v76:=zeroValue371
 t127:=underlying392
 a127:=isAgg392
 z127:=sizeOf392
 v127:=zeroValue392
 t164:=underlying414
 a164:=isAgg414
 z164:=sizeOf414
 v164:=zeroValue414
theorem extraJoin:Builder.Extra prog layJoin_ren where
 sizeBuilder:=by kernel_rfl
 liesBuilder:=by kernel_rfl
 t5:=underlying5
 a5:=isAgg5
 z5:=sizeOf5
 v5:=zeroValue5
 infoByte:=by kernel_rfl
 cellsByte:=by kernel_rfl
 sizeByte:=by kernel_rfl
 neB5:=by decide
namespace Eng
open Go.RowKit
theorem rep_strs {w:World} {ow:Nat->Prop} {l:List ByteArray} {sl:Value} (hsl:RepV w ow (ssV l) sl):(l=[]/\∃a c,sl=.slice a 0 c) \/
 ∃b off c,sl=.slice (some ⟨b,off,none⟩) l.length c/\b<w.heap.size/\l.length<=c/\∀(j:Nat) x,l[j]?=some x->w.cell? ⟨b,off+j,none⟩=some (.string x):=by
 obtain ⟨a,cap,rfl,hcp,hz,hcl⟩:∃(a:Option Addr) (cap:Nat),sl=.slice a l.length cap/\l.length<=cap/\(a=none->l=[])/\(∀ad,a=some ad->∀j (h:j<l.length),w.cell? (ad.add j)=some (.string (l.getD j default))):=by
  cases hsl with
  | s _ _ a n c g hn hk hz hcap hc hr =>
   have hn:n=l.length:=by simpa using hn
   subst hn;refine ⟨a,c,rfl,hcap,fun h=>by simpa using hz h,fun ad had j hj=>?_⟩;have e1:(l.map fun s=>[V.x (.string s)])[j]?=some [V.x (.string (l.getD j default))]:=by simp[hj]
   have h1:=(hc ad had j _ 0 _ e1 rfl).1;have h2:=hr j _ 0 _ e1 rfl
   have e2:g j 0=.string (l.getD j default):=by
    generalize g j 0=u at h2;cases h2;rfl
   rw[<-e2];simpa using h1
 rcases Nat.eq_zero_or_pos l.length with h0|h0
 .have:l=[]:=List.length_eq_zero_iff.1 h0;subst this;exact .inl ⟨rfl,_,_,rfl⟩
 .right
  cases a with
  | none=>have:=hz rfl;subst this;simp at h0
  | some ad =>
   obtain ⟨b,off,sp⟩:=ad;have h00:=hcl _ rfl 0 h0
   have hsp:sp=none:=by
    unfold World.cell? Addr.add at h00;simp only[if_true]at h00
    split at h00
    .cases sp with
     | none=>rfl
     | some _=>simp at h00
    .cases h00
   subst hsp;refine ⟨b,off,cap,rfl,?_,hcp,fun j x hj=>?_⟩
   .have:=World.block_lt_of_cell? _ _ h00
    rwa [Yg]at this
   .obtain ⟨hjl,hjx⟩:=List.getElem?_eq_some_iff.1 hj;have:=hcl _ rfl j hjl
    have e:(⟨b,off,none⟩:Addr).add j=⟨b,off+j,none⟩:=by
     unfold Addr.add
     split
     .rename_i h;subst h;rfl
     .rfl
    rw[e]at this;rw[this,List.getD_eq_getElem?_getD,hj];rfl
def joinS (l:List ByteArray) (sep:ByteArray):ByteArray:=⟨(Lib.join (l.map (·.data.toList)) sep.data.toList).toArray⟩
theorem join_c (l:List ByteArray) (sep:ByteArray) (hl:l.length<=1000) (hj:(joinS l sep).size<=1000000):ACall prog 240 [] [ssD l,StD sep] (StD (joinS l sep)) []:=by
 refine NU.acall_raw ⟨_,func240,by kernel_rfl,by kernel_rfl⟩ fun w vs ow ρ hG ha=>?_
 match vs,ha with
 | [a,b],⟨h2,h3,_⟩ =>
  obtain ⟨rfl,_⟩:=rep_x (v:=.string sep) h3;rcases rep_strs (show RepV w _ (ssV l) a from h2) with ⟨rfl,ad,c,rfl⟩|⟨b,off,c,rfl,hb,hc,hx⟩
  .refine (Any.strings_Join_none layJoin extraJoin ad c sep w).mono ?_;rintro e w' ⟨rfl,rfl⟩;exact ⟨_,rfl,Below.refl _ _,fun _ _=>RepV.x _ rfl⟩
  .have hj2:(Lib.join (l.map (·.data.toList)) sep.data.toList).length<=140737488355328:=by
    have:(joinS l sep).size=(Lib.join (l.map (·.data.toList)) sep.data.toList).length:=rfl;omega
   refine (Any.strings_Join layJoin extraJoin b off c l sep w hx hb (by omega) hc hj2).mono ?_;rintro e w' ⟨rfl,hw⟩;exact ⟨_,rfl,hw,fun _ _=>RepV.x _ rfl⟩
end Eng
end Go.Proofs.YtgenjpingdkmgaaGreatDoor
namespace Go.Proofs.YtgenjpingdkmgaaGreatDoor
def layIt_ren:Go.Shelf.Ren:=⟨fun|173=>202|246=>248|283=>283|284=>284|285=>285|286=>286|129=>172|317=>310|318=>311|319=>312|320=>313|337=>334|338=>335|171=>242|243=>279|n=>n,fun|2=>2|3=>3|9=>9|4=>4|171=>380|0=>0|53=>209|37=>24|5=>5|173=>382|212=>396|51=>246|20=>20|213=>397|46=>192|232=>426|233=>427|n=>n,fun|17=>3|18=>8|19=>9|n=>n⟩
theorem layIt:Lays.n171 prog layIt_ren where
 mixed:=by kernel_rfl
 f129:=func172.trans (congrArg some (by kernel_rfl))
 f171:=func242.trans (congrArg some (by kernel_rfl))
 f243:=func279.trans (congrArg some (by kernel_rfl))
 f246:=func248.trans (congrArg some (by kernel_rfl))
 f283:=func283.trans (congrArg some (by kernel_rfl))
 f284:=func284.trans (congrArg some (by kernel_rfl))
 f285:=func285.trans (congrArg some (by kernel_rfl))
 f286:=func286.trans (congrArg some (by kernel_rfl))
 f317:=func310.trans (congrArg some (by kernel_rfl))
 f318:=func311.trans (congrArg some (by kernel_rfl))
 f319:=func312.trans (congrArg some (by kernel_rfl))
 f320:=func313.trans (congrArg some (by kernel_rfl))
 f337:=func334.trans (congrArg some (by kernel_rfl))
 f338:=func335.trans (congrArg some (by kernel_rfl))
 t0:=underlying0
 a0:=isAgg0
 z0:=sizeOf0
 v0:=zeroValue0
 t2:=underlying2
 a2:=isAgg2
 z2:=sizeOf2
 v2:=zeroValue2
 t3:=underlying3
 a3:=isAgg3
 z3:=sizeOf3
 v3:=zeroValue3
 t4:=underlying4
 a4:=isAgg4
 z4:=sizeOf4
 v4:=zeroValue4
 t5:=underlying5
 a5:=isAgg5
 z5:=sizeOf5
 v5:=zeroValue5
 t9:=underlying9
 a9:=isAgg9
 z9:=sizeOf9
 v9:=zeroValue9
 t20:=underlying20
 a20:=isAgg20
 z20:=sizeOf20
 v20:=zeroValue20
 t37:=underlying24
 a37:=isAgg24
 z37:=sizeOf24
 v37:=zeroValue24
 t46:=underlying192
 a46:=isAgg192
 z46:=sizeOf192
 v46:=zeroValue192
 t51:=underlying246
 a51:=isAgg246
 z51:=sizeOf246
 v51:=zeroValue246
 t53:=underlying209
 a53:=isAgg209
 z53:=sizeOf209
 v53:=zeroValue209
 t171:=underlying380
 a171:=isAgg380
 z171:=sizeOf380
 v171:=zeroValue380
 t173:=underlying382
 a173:=isAgg382
 z173:=sizeOf382
 v173:=zeroValue382
 t212:=underlying396
 a212:=isAgg396
 z212:=sizeOf396
 v212:=zeroValue396
 t213:=underlying397
 a213:=isAgg397
 z213:=sizeOf397
 t232:=underlying426
 a232:=isAgg426
 z232:=sizeOf426
 v232:=zeroValue426
 t233:=underlying427
 a233:=isAgg427
 z233:=sizeOf427
 v233:=zeroValue427
 g17:=by kernel_rfl
 g18:=by kernel_rfl
 g19:=by kernel_rfl
namespace Eng
open Go.RowKit
theorem itoa_c (i:Nat) (hi:i<100):ACall prog 242 [] [I i] (StD ⟨(Lib.decDigits i).toArray⟩) []:=by
 refine NU.acall_raw ⟨_,func242,by kernel_rfl,by kernel_rfl⟩ fun w vs ow ρ hG ha=>?_
 match vs,ha with
 | [a],⟨h2,_⟩ =>
  obtain ⟨rfl,_⟩:=rep_x (v:=.int .i64 i) h2;refine (Any.strconv_Itoa_small layIt i hi w).mono ?_;rintro e w2 ⟨rfl,rfl⟩;exact ⟨_,rfl,Below.refl _ _,fun _ _=>RepV.x _ rfl⟩
end Eng
end Go.Proofs.YtgenjpingdkmgaaGreatDoor
namespace Go.Proofs.YtgenjpingdkmgaaGreatDoor
namespace Eng
section
open NU
theorem ctS_x (s:ByteArray) (c:UInt8):XCall prog 232 [] [StD s,u8D c] (I (s.data.toList.count c)) []:=by
 intro own0 w ρ vs hm ha
 match vs,ha with
 | [a,b],⟨h1,h2,_⟩ =>
  obtain ⟨rfl,_⟩:=rep_x h1;obtain ⟨rfl,_⟩:=rep_x h2;refine ⟨.int .i64 (s.data.toList.count c),ρ,?_,Sub.refl _,rep_x_mk rfl,hm⟩;show (callFunc 232 #[.string s,.int .u8 (c.toNat:Int)]).run prog w=_;rw[run_callFunc_extern func232 (by kernel_rfl) (by kernel_rfl) (by kernel_rfl) (e:=Extern.BytealgCount.count) (by kernel_rfl),Lib.run_countString,u8_back];rfl
theorem ixS_x (s:ByteArray) (c:UInt8):XCall prog 282 [] [StD s,u8D c] (I (Lib.indexByte s.data.toList c)) []:=by
 intro own0 w ρ vs hm ha
 match vs,ha with
 | [a,b],⟨h1,h2,_⟩ =>
  obtain ⟨rfl,_⟩:=rep_x h1;obtain ⟨rfl,_⟩:=rep_x h2;refine ⟨.int .i64 (Lib.indexByte s.data.toList c),ρ,?_,Sub.refl _,rep_x_mk rfl,hm⟩;show (callFunc 282 #[.string s,.int .u8 (c.toNat:Int)]).run prog w=_;rw[run_callFunc_extern func282 (by kernel_rfl) (by kernel_rfl) (by kernel_rfl) (e:=Extern.BytealgIndexByte.indexByte) (by kernel_rfl),Lib.run_indexByteString,u8_back];rfl
theorem ixS_c (s:ByteArray) (c:UInt8):ACall prog 247 [] [StD s,u8D c] (I (Lib.indexByte s.data.toList c)) []:=by
 have hix:=ixS_x s c;refine Ac func247 ?_;refine Wk trivial @hix ?_;refine Fn @results247 trivial ?_;try exact ⟨⟩
def oneS (c:UInt8):ByteArray:=str [c]
theorem countS_c (s:ByteArray) (c:UInt8):ACall prog 184 [] [StD s,StD (oneS c)] (I (s.data.toList.count c)) []:=by
 have hcx:=ctS_x s c;have hz:((oneS c).size:Int)=1:=rfl;refine Ac func184 ?_;refine Wk trivial @hcx ?_;refine Cb ?_ ?_<;>intro hc<;>(try exact ⟨⟩)
 .omega
 .refine Wk trivial @hcx ?_;refine Cb ?_ ?_<;>intro hc<;>(try exact ⟨⟩)
  .refine Wk trivial @hcx ?_;refine Fn @results184 trivial ?_;try exact ⟨⟩
  .omega
theorem indexL_c (s:ByteArray) (c:UInt8):ACall prog 268 [] [StD s,StD (oneS c)] (I (Lib.indexByte s.data.toList c)) []:=by
 have hi1:=ixS_c s c;have hz:((oneS c).size:Int)=1:=rfl;refine Ac func268 ?_;refine Wk trivial @hi1 ?_;refine Cb ?_ ?_<;>intro hc<;>(try exact ⟨⟩)
 .have e:Lib.indexByte s.data.toList c=0:=by
   rcases hc with hc|hc
   .omega
   .have h:s.data.toList=[c]:=hc.symm;rw[h];simp[Lib.indexByte]
  rw[e];refine Wk trivial @hi1 ?_;refine Fn @results268 trivial ?_;try exact ⟨⟩
 .refine Wk trivial @hi1 ?_;refine Cb ?_ ?_<;>intro hc<;>(try exact ⟨⟩)
  .refine Wk trivial @hi1 ?_;refine Fn @results268 trivial ?_;try exact ⟨⟩
  .omega
theorem indexT_c (s:ByteArray) (c:UInt8):ACall prog 233 [] [StD s,StD (oneS c)] (I (Lib.indexByte s.data.toList c)) []:=by
 have hi1:=indexL_c s c;refine Ac func233 ?_;refine Wk trivial @hi1 ?_;refine Fn @results233 trivial ?_;try exact ⟨⟩
def splL (c:UInt8):List UInt8->List (List UInt8)
 | []=>[[]]
 | b::l=>if b=c then []::splL c l else match splL c l with
  | []=>[[b]]
  | x::r=>(b::x)::r
theorem splL_ne (c:UInt8) (l:List UInt8):splL c l≠[]:=by
 cases l with
 | nil=>simp[splL]
 | cons b l=>unfold splL;split
             .simp
             .split<;>simp
theorem splL_none {c:UInt8}:∀ {l:List UInt8},l.count c=0->splL c l=[l]
 | [],_=>rfl
 | b::l,h=>by
  have hb:b≠c:=fun e=>by subst e;simp at h
  rw[List.count_cons_of_ne hb]at h;unfold splL;rw[if_neg hb,splL_none h]
theorem splL_hit (c:UInt8) (l:List UInt8):splL c (c::l)=[]::splL c l:=by simp[splL]
theorem splL_miss {c b:UInt8} {l x:List UInt8} {r:List (List UInt8)} (h:b≠c) (hs:splL c l=x::r):splL c (b::l)=(b::x)::r:=by simp[splL,h,hs]
theorem splL_at {c:UInt8}:∀ {l:List UInt8} {q:Nat},q<l.length->(l.take q).count c=0->l.getD q 0=c->splL c l=l.take q::splL c (l.drop (q+1))
 | [],q,h,_,_=>by simp at h
 | b::l,0,_,_,h=>by
  have:b=c:=h;subst this
  exact splL_hit b l
 | b::l,q+1,h1,h2,h3=>by
  have hb:b≠c:=fun e=>by subst e;simp[List.take_succ_cons]at h2
  rw[List.take_succ_cons,List.count_cons_of_ne hb]at h2;have ih:=splL_at (c:=c) (l:=l) (q:=q) (by simpa using h1) h2 (by simpa using h3);exact splL_miss hb ih
theorem splL_len (c:UInt8):∀l:List UInt8,(splL c l).length=l.count c+1
 | []=>rfl
 | b::l=>by
  have ih:=splL_len c l;unfold splL
  split
  .rename_i h;subst h;simp[ih]
  .rename_i h;rw[List.count_cons_of_ne h];have hne:=splL_ne c l
   cases hs:splL c l with
   | nil=>exact absurd hs hne
   | cons x r=>rw[hs]at ih;simpa using ih
theorem count_at {c:UInt8} {l:List UInt8} {q:Nat} (h1:q<l.length) (h2:(l.take q).count c=0) (h3:l.getD q 0=c):(l.drop (q+1)).count c+1=l.count c:=by
 have:=splL_at h1 h2 h3;have a:=splL_len c l;rw[this,List.length_cons,splL_len]at a;omega
abbrev rowS (ps:List (List UInt8)) (n:Nat):List (List V):=(ps.map fun p=>[vS (str p)])++List.replicate (n - ps.length) [vS ⟨#[]⟩]
theorem rowS_set (ps:List (List UInt8)) (n:Nat) (p:List UInt8) (h:ps.length<n):(rowS ps n).set ps.length [vS (str p)]=rowS (ps++[p]) n:=by
 unfold rowS;obtain ⟨m,hm⟩:∃m,n - ps.length=m+1:=⟨n - ps.length - 1,by omega⟩
 rw[hm,List.replicate_succ,List.set_append_right _ _ (by simp),List.length_map,Nat.sub_self,List.set_cons_zero,List.map_append,List.length_append,List.length_singleton,show n - (ps.length+1)=m by omega,List.append_assoc];rfl
theorem rowS_put (ps:List (List UInt8)) (n:Nat) (p:List UInt8) (h:ps.length<n):(rowS ps n).set ps.length (vS (str p)::List.drop 1 ((rowS ps n).getD ps.length []))=rowS (ps++[p]) n:=by
 have e:List.drop 1 ((rowS ps n).getD ps.length [])=[]:=by
  obtain ⟨m,hm⟩:∃m,n - ps.length=m+1:=⟨n - ps.length - 1,by omega⟩
  unfold rowS;rw[hm,List.replicate_succ,List.getD_eq_getElem?_getD,List.getElem?_append_right (by simp)];simp
 rw[e];exact rowS_set ps n p h
theorem rowS_len (ps:List (List UInt8)) (n:Nat) (h:ps.length<=n):(rowS ps n).length=n:=by simp[rowS];omega
def qST1:=PLift.up (An @NU.str_ext @rowS_len)
theorem split_c (l:List UInt8) (c:UInt8) (hl:l.length<=100000):ACall prog 185 [] [StD (str l),StD (oneS c),I 0,I (-1)] (ssD ((splL c l).map str)) []:=by
 have hcnt:=countS_c (str l) c;obtain ⟨m,hm⟩:∃m,l.count c=m:=⟨_,rfl⟩
 have hml:m<=l.length:=by rw[<-hm];exact List.count_le_length
 have e0:(str l).data.toList.count c=m:=hm;rw[e0]at hcnt;have hz:((oneS c).size:Int)=1:=rfl;have hzl:(((str l).size:Nat):Int)=l.length:=rfl;have hmin:(if ((str l).size:Int)+1<(m:Int)+1 then ((str l).size:Int)+1 else (m:Int)+1)=(m:Int)+1:=if_neg (by omega);have hnat:((m:Int)+1).toNat=m+1:=by omega
 refine Ac func185 ?_;refine Wk (An @hnat (An @hmin qST1.1)) @hcnt ?_;refine Cb ?_ ?_<;>intro hc<;>(try exact ⟨⟩)
 .contradiction
 .refine Wk (An @hnat (An @hmin qST1.1)) @hcnt ?_;refine Cb ?_ ?_<;>intro hc<;>(try exact ⟨⟩)
  .exact absurd hc (by simp[oneS])
  .refine Wk (An @hnat (An @hmin qST1.1)) @hcnt ?_;refine Cb ?_ ?_<;>intro hc<;>(try exact ⟨⟩)
   .refine Wk (An @hnat (An @hmin qST1.1)) @hcnt ?_
    refine AWp.loop (fun s:List (List UInt8)×List UInt8=>mkSt [(0,StD (str s.2)),(1,StD (oneS c)),(2,I 0),(3,I m),(9,.e (.c (.o 0 (m+1)))),(10,I s.1.length)] [(0,.row 1 (rowS s.1 (m+1)))] 1)
     (fun s=>s.1.length+s.2.count c=m/\s.1++splL c s.2=splL c l/\s.2.length<=l.length) (fun s=>m - s.1.length) ([],l) ⟨by simpa using hm,rfl,Nat.le_refl _⟩ (by refine Le.of (τ:=[(0,1216)]) (ν:=[]) (by kernel_rfl) ?_ ?_<;>((refine Lw (An @hnat (An @hmin qST1.1)) ?_;try exact ⟨⟩);try (first|omega|rfl|exact ⟨by omega,rfl⟩))) fun s hs=>?_
    obtain ⟨ps,r⟩:=s;obtain ⟨h1,h2,h3⟩:=hs;dsimp only at h1 h2 h3 ⊢;refine Wk (An @hnat (An @hmin qST1.1)) @hcnt ?_;refine Cb ?_ ?_<;>intro hc<;>(try exact ⟨⟩)
    .obtain ⟨q,hq1,hq2,hq3,hq4⟩:=index_spec c r (by omega);have hidx:=indexT_c (str r) c;have e2:Lib.indexByte (str r).data.toList c=q:=hq1;rw[e2]at hidx;have hzr:(((str r).size:Nat):Int)=r.length:=rfl;refine Wk (An @hnat (An @hmin qST1.1)) (An @hcnt @hidx) ?_;refine Cb ?_ ?_<;>intro hc<;>(try exact ⟨⟩)
     .omega
     .refine Wk (An @hnat (An @hmin qST1.1)) (An @hcnt @hidx) ?_;have hp1:(((q:Int)+0).toNat - 0)=q:=by omega
      have hp2:((q:Int)+((oneS c).size:Int)).toNat=q+1:=by omega
      have hp3:List.take ((str r).size - (q+1)) (List.drop (q+1) r)=r.drop (q+1):=List.take_of_length_le (by rw[List.length_drop];exact Nat.le_refl _);simp only[hp1,hp2,hp3,rowS_put ps (m+1) _ (by omega)];refine Za (ps++[r.take q],r.drop (q+1)) ⟨?_,?_,?_⟩ ?_ (by refine Le.of (τ:=[]) (ν:=[]) (by kernel_rfl) ?_ ?_<;>((refine Lw (An @hnat (An @hmin qST1.1)) ?_;try exact ⟨⟩);try (first|omega|rfl|(simp;done)|(simp;omega))))
      .have:=count_at hq2 hq3 hq4;simp only[List.length_append,List.length_singleton];omega
      .rw[<-h2,splL_at hq2 hq3 hq4];simp
      .simp only[List.length_drop];omega
      .simp only[List.length_append,List.length_singleton];omega
    .refine Wk (An @hnat (An @hmin qST1.1)) @hcnt ?_;simp only[rowS_put ps (m+1) _ (show ps.length<m+1 by omega)];have e3:ps++[r]=splL c l:=by rw[<-h2,splL_none (by omega)]
     have e4:rowS (ps++[r]) (m+1)=(splL c l).map fun p=>[vS (str p)]:=by
      unfold rowS;rw[e3,splL_len,hm];simp
     rw[e4];refine Fn @results185 (An @hnat (An @hmin qST1.1)) ?_;try exact ⟨⟩
     have hsl:(splL c l).length=m+1:=by rw[splL_len,hm]
     exact ⟨by rw[List.take_of_length_le (by rw[List.length_map,hsl];omega)];exact List.map_map,by omega⟩
   .contradiction
theorem split2_c (l:List UInt8) (c:UInt8) (hl:l.length<=100000):ACall prog 133 [] [StD (str l),StD (oneS c)] (ssD ((splL c l).map str)) []:=by
 have hsp:=split_c l c hl;refine Ac func133 ?_;refine Wk qST1.1 @hsp ?_;refine Fn @results133 qST1.1 ?_;try exact ⟨⟩
end
section
open NU
def asksL:List (List UInt8):=[[],[111,114,100,101,114],[99,104,97,110,103,101],[116,111,108,100],[116,105,99,107],[107,105,108,108],[103,97,112],[114,101,115,101,116],[108,105,109,105,116]]
def execsL:List (List UInt8):=[[],[110,101,119],[102,105,108,108],[99,97,110,99,101,108],[114,101,112,108,97,99,101],[114,101,106,101,99,116],[101,120,112,105,114,101],[98,117,115,116],[99,111,114,114,101,99,116]]
theorem gT1:List.lookup 1 globT=some (asksL.map fun s=>Value.string (str s)):=by rfl
theorem gT2:List.lookup 2 globT=some (execsL.map fun s=>Value.string (str s)):=by rfl
def qTP1:=PLift.up (An @gT1 @gT2)
theorem choose_c (b:Bool) (x y:ByteArray):ACall prog 333 [] [B b,StD x,StD y] (StD (if b then x else y)) []:=by
 refine Ac func333 ?_;cases b
 .refine Wk qTP1.1 trivial ?_;refine Cb ?_ ?_<;>intro hc<;>(try exact ⟨⟩)
  .contradiction
  .refine Wk qTP1.1 trivial ?_;refine Fn @results333 qTP1.1 ?_;try exact ⟨⟩
 .refine Wk qTP1.1 trivial ?_;refine Cb ?_ ?_<;>intro hc<;>(try exact ⟨⟩)
  .refine Wk qTP1.1 trivial ?_;refine Fn @results333 qTP1.1 ?_;try exact ⟨⟩
  .contradiction
abbrev tabC (t:Nat->ByteArray):List C:=[.v (vS (t 0)),.v (vS (t 1)),.v (vS (t 2)),.v (vS (t 3)),.v (vS (t 4)),.v (vS (t 5)),.v (vS (t 6)),.v (vS (t 7)),.v (vS (t 8))]
def placeL (t:Nat->ByteArray) (s:ByteArray):Nat->Nat->Int
 | 0,_=>0
 | k+1,i=>if (t i).data.toList=s.data.toList then i else placeL t s k (i+1)
theorem Ys (t:Nat->ByteArray) (s:ByteArray) (k i:Nat) (h:(t i).data.toList=s.data.toList):placeL t s (k+1) i=i:=if_pos h
theorem Yt (t:Nat->ByteArray) (s:ByteArray) (k i:Nat) (h:¬(t i).data.toList=s.data.toList):placeL t s (k+1) i=placeL t s k (i+1):=if_neg h
theorem place_c (t:Nat->ByteArray) (s:ByteArray) (r:Int) (hr:placeL t s 8 1=r):ACall prog 276 [] [.e (.a (tabC t)),StD s] (I r) []:=by
 refine Ac func276 ?_;refine Wk qTP1.1 trivial ?_;refine AWp.loop (fun i:Nat=>mkSt [(1,StD s),(2,.p 0 0),(5,I i)] [(0,.loc (tabC t))] 1) (fun i=>1<=i/\i<=9/\placeL t s (9 - i) i=r) (fun i=>9 - i) 1 ⟨Nat.le_refl _,by omega,hr⟩ (by refine Le.of (τ:=[]) (ν:=[]) (by kernel_rfl) ?_ ?_<;>((refine Lw qTP1.1 ?_;try exact ⟨⟩);try (first|omega|rfl|exact ⟨rfl,rfl⟩))) fun i hi=>?_;obtain ⟨h1,h9,hp⟩:=hi;have hi:i=1\/i=2\/i=3\/i=4\/i=5\/i=6\/i=7\/i=8\/i=9:=by omega
 rcases hi with rfl|rfl|rfl|rfl|rfl|rfl|rfl|rfl|rfl
 .refine Wk qTP1.1 trivial ?_;refine Cb ?_ ?_<;>intro hc<;>(try exact ⟨⟩)
  .refine Wk qTP1.1 trivial ?_;refine Cb ?_ ?_<;>intro hc<;>(try exact ⟨⟩)
   .have e:r=1:=hp.symm.trans (Ys t s 7 1 hc);subst e;refine Wk qTP1.1 trivial ?_;refine Fn @results276 qTP1.1 ?_;try exact ⟨⟩
   .refine Wk qTP1.1 trivial ?_;refine Za 2 ⟨by omega,by omega,(Yt t s 7 1 hc).symm.trans hp⟩ (by omega) (by refine Le.of (τ:=[]) (ν:=[]) (by kernel_rfl) ?_ ?_<;>((refine Lw qTP1.1 ?_;try exact ⟨⟩);try omega))
  .omega
 .refine Wk qTP1.1 trivial ?_;refine Cb ?_ ?_<;>intro hc<;>(try exact ⟨⟩)
  .refine Wk qTP1.1 trivial ?_;refine Cb ?_ ?_<;>intro hc<;>(try exact ⟨⟩)
   .have e:r=2:=hp.symm.trans (Ys t s 6 2 hc);subst e;refine Wk qTP1.1 trivial ?_;refine Fn @results276 qTP1.1 ?_;try exact ⟨⟩
   .refine Wk qTP1.1 trivial ?_;refine Za 3 ⟨by omega,by omega,(Yt t s 6 2 hc).symm.trans hp⟩ (by omega) (by refine Le.of (τ:=[]) (ν:=[]) (by kernel_rfl) ?_ ?_<;>((refine Lw qTP1.1 ?_;try exact ⟨⟩);try omega))
  .omega
 .refine Wk qTP1.1 trivial ?_;refine Cb ?_ ?_<;>intro hc<;>(try exact ⟨⟩)
  .refine Wk qTP1.1 trivial ?_;refine Cb ?_ ?_<;>intro hc<;>(try exact ⟨⟩)
   .have e:r=3:=hp.symm.trans (Ys t s 5 3 hc);subst e;refine Wk qTP1.1 trivial ?_;refine Fn @results276 qTP1.1 ?_;try exact ⟨⟩
   .refine Wk qTP1.1 trivial ?_;refine Za 4 ⟨by omega,by omega,(Yt t s 5 3 hc).symm.trans hp⟩ (by omega) (by refine Le.of (τ:=[]) (ν:=[]) (by kernel_rfl) ?_ ?_<;>((refine Lw qTP1.1 ?_;try exact ⟨⟩);try omega))
  .omega
 .refine Wk qTP1.1 trivial ?_;refine Cb ?_ ?_<;>intro hc<;>(try exact ⟨⟩)
  .refine Wk qTP1.1 trivial ?_;refine Cb ?_ ?_<;>intro hc<;>(try exact ⟨⟩)
   .have e:r=4:=hp.symm.trans (Ys t s 4 4 hc);subst e;refine Wk qTP1.1 trivial ?_;refine Fn @results276 qTP1.1 ?_;try exact ⟨⟩
   .refine Wk qTP1.1 trivial ?_;refine Za 5 ⟨by omega,by omega,(Yt t s 4 4 hc).symm.trans hp⟩ (by omega) (by refine Le.of (τ:=[]) (ν:=[]) (by kernel_rfl) ?_ ?_<;>((refine Lw qTP1.1 ?_;try exact ⟨⟩);try omega))
  .omega
 .refine Wk qTP1.1 trivial ?_;refine Cb ?_ ?_<;>intro hc<;>(try exact ⟨⟩)
  .refine Wk qTP1.1 trivial ?_;refine Cb ?_ ?_<;>intro hc<;>(try exact ⟨⟩)
   .have e:r=5:=hp.symm.trans (Ys t s 3 5 hc);subst e;refine Wk qTP1.1 trivial ?_;refine Fn @results276 qTP1.1 ?_;try exact ⟨⟩
   .refine Wk qTP1.1 trivial ?_;refine Za 6 ⟨by omega,by omega,(Yt t s 3 5 hc).symm.trans hp⟩ (by omega) (by refine Le.of (τ:=[]) (ν:=[]) (by kernel_rfl) ?_ ?_<;>((refine Lw qTP1.1 ?_;try exact ⟨⟩);try omega))
  .omega
 .refine Wk qTP1.1 trivial ?_;refine Cb ?_ ?_<;>intro hc<;>(try exact ⟨⟩)
  .refine Wk qTP1.1 trivial ?_;refine Cb ?_ ?_<;>intro hc<;>(try exact ⟨⟩)
   .have e:r=6:=hp.symm.trans (Ys t s 2 6 hc);subst e;refine Wk qTP1.1 trivial ?_;refine Fn @results276 qTP1.1 ?_;try exact ⟨⟩
   .refine Wk qTP1.1 trivial ?_;refine Za 7 ⟨by omega,by omega,(Yt t s 2 6 hc).symm.trans hp⟩ (by omega) (by refine Le.of (τ:=[]) (ν:=[]) (by kernel_rfl) ?_ ?_<;>((refine Lw qTP1.1 ?_;try exact ⟨⟩);try omega))
  .omega
 .refine Wk qTP1.1 trivial ?_;refine Cb ?_ ?_<;>intro hc<;>(try exact ⟨⟩)
  .refine Wk qTP1.1 trivial ?_;refine Cb ?_ ?_<;>intro hc<;>(try exact ⟨⟩)
   .have e:r=7:=hp.symm.trans (Ys t s 1 7 hc);subst e;refine Wk qTP1.1 trivial ?_;refine Fn @results276 qTP1.1 ?_;try exact ⟨⟩
   .refine Wk qTP1.1 trivial ?_;refine Za 8 ⟨by omega,by omega,(Yt t s 1 7 hc).symm.trans hp⟩ (by omega) (by refine Le.of (τ:=[]) (ν:=[]) (by kernel_rfl) ?_ ?_<;>((refine Lw qTP1.1 ?_;try exact ⟨⟩);try omega))
  .omega
 .refine Wk qTP1.1 trivial ?_;refine Cb ?_ ?_<;>intro hc<;>(try exact ⟨⟩)
  .refine Wk qTP1.1 trivial ?_;refine Cb ?_ ?_<;>intro hc<;>(try exact ⟨⟩)
   .have e:r=8:=hp.symm.trans (Ys t s 0 8 hc);subst e;refine Wk qTP1.1 trivial ?_;refine Fn @results276 qTP1.1 ?_;try exact ⟨⟩
   .refine Wk qTP1.1 trivial ?_;refine Za 9 ⟨by omega,by omega,(Yt t s 0 8 hc).symm.trans hp⟩ (by omega) (by refine Le.of (τ:=[]) (ν:=[]) (by kernel_rfl) ?_ ?_<;>((refine Lw qTP1.1 ?_;try exact ⟨⟩);try omega))
  .omega
 .refine Wk qTP1.1 trivial ?_;refine Cb ?_ ?_<;>intro hc<;>(try exact ⟨⟩)
  .omega
  .have e:r=0:=hp.symm;subst e;refine Wk qTP1.1 trivial ?_;refine Fn @results276 qTP1.1 ?_;try exact ⟨⟩
end
section
open NU
def numW (l:List UInt8):Int:=if (parseS l).2=0 then (parseS l).1 else -1
theorem numw_c (l:List UInt8) (hl:l.length<=1000) (r:Int) (hr:numW l=r):ACall prog 306 [] [StD (str l)] (I r) []:=by
 unfold numW at hr;obtain ⟨⟨v,e⟩,he⟩:∃y,parseS l=y:=⟨_,rfl⟩
 have hp:=parse_c l hl _ he;rw[he]at hr;dsimp only at hr;refine Ac func306 ?_;refine Wk @Zh @hp ?_;refine Cb ?_ ?_<;>intro hc<;>(try exact ⟨⟩)
 .rw[if_neg hc]at hr;subst hr;refine Wk @Zh @hp ?_;refine Fn @results306 @Zh ?_;try exact ⟨⟩
 .rw[if_pos (by omega)]at hr;subst hr;refine Wk @Zh @hp ?_;refine Fn @results306 @Zh ?_;try exact ⟨⟩
theorem wordAt_c (l:List ByteArray) (i:Nat) (hl:l.length<=100000) (r:ByteArray) (hr:l.getD i ⟨#[]⟩=r):ACall prog 305 [] [I i,.q [ssV l]] (StD r) []:=by
 refine Ac func305 ?_;refine Wk @Zh trivial ?_;refine Cb ?_ ?_<;>intro hc<;>(try exact ⟨⟩)
 .have hil:i<l.length:=by omega
  have e:l.getD i default=r:=hr;refine Wk @Zh trivial ?_;refine Fn @results305 @Zh ?_;try exact ⟨⟩
  exact e.symm
 .have e:r=⟨#[]⟩:=by
   rw[<-hr,List.getD_eq_getElem?_getD,List.getElem?_eq_none (by omega)];rfl
  subst e;refine Wk @Zh trivial ?_;refine Fn @results305 @Zh ?_;try exact ⟨⟩
end
section
open NU
theorem evO_g1 (En:Nat->D):evO En (.global 1)=.q [vS (str (asksL.getD 0 [])),vS (str (asksL.getD 1 [])),vS (str (asksL.getD 2 [])),vS (str (asksL.getD 3 [])),vS (str (asksL.getD 4 [])),vS (str (asksL.getD 5 [])),vS (str (asksL.getD 6 [])),vS (str (asksL.getD 7 [])),vS (str (asksL.getD 8 []))]:=rfl
theorem evO_g2 (En:Nat->D):evO En (.global 2)=.q [vS (str (execsL.getD 0 [])),vS (str (execsL.getD 1 [])),vS (str (execsL.getD 2 [])),vS (str (execsL.getD 3 [])),vS (str (execsL.getD 4 [])),vS (str (execsL.getD 5 [])),vS (str (execsL.getD 6 [])),vS (str (execsL.getD 7 [])),vS (str (execsL.getD 8 []))]:=rfl
def wAt (ws:List (List UInt8)) (j:Int):ByteArray:=str (ws.getD j.toNat [])
def nAt (ws:List (List UInt8)) (j:Int):Int:=numW (ws.getD j.toNat [])
theorem wAt_c (ws:List (List UInt8)) (hl:ws.length<=1000) (j:Int) (hj:0<=j):ACall prog 305 [] [I j,.q [ssV (ws.map str)]] (StD (wAt ws j)) []:=by
 obtain ⟨i,rfl⟩:=Int.eq_ofNat_of_zero_le hj;refine wordAt_c (ws.map str) i (by rw[List.length_map];omega) _ ?_;unfold wAt;rw[Int.toNat_natCast,List.getD_eq_getElem?_getD,List.getD_eq_getElem?_getD,List.getElem?_map];cases ws[i]?<;>rfl
theorem nAt_c (ws:List (List UInt8)) (h:∀w,w∈ws->w.length<=1000) (j:Int):ACall prog 306 [] [StD (wAt ws j)] (I (nAt ws j)) []:=by
 refine numw_c _ ?_ _ rfl;rw[List.getD_eq_getElem?_getD]
 cases hw:ws[j.toNat]? with
 | none=>exact Nat.zero_le _
 | some w=>exact h w (List.mem_of_getElem? hw)
def buyS:List UInt8:=[98,117,121]
def zLim:NA.Lim:=⟨⟨#[]⟩,⟨#[]⟩,0,0,0,0⟩
def zExe:Exe:=⟨⟨#[]⟩,⟨#[]⟩,⟨#[]⟩,⟨#[]⟩,⟨#[]⟩,0,false,0,0,0⟩
def zOrd:Ord:=⟨⟨#[]⟩,⟨#[]⟩,⟨#[]⟩,false,0,0,0,false⟩
def asked1 (ws:List (List UInt8)):Ask:=⟨1,nAt ws 1,⟨wAt ws 2,wAt ws 3,wAt ws 4,((wAt ws 5).data.toList == buyS),nAt ws 6,nAt ws 7,0,false⟩,⟨#[]⟩,zExe,0,false,zLim⟩
def qTB1:=PLift.up (An @evO_g1 @evO_g2)
theorem asked1_c (ws:List (List UInt8)) (hl:ws.length<=1000) (h:∀w,w∈ws->w.length<=1000):ACall prog 277 [] [I 1,ssD (ws.map str)] (aD (asked1 ws)) []:=by
 have hw:=wAt_c ws hl;have hn:=nAt_c ws h;refine Ac func277 ?_;refine Wk qTB1.1 (An @hw @hn) ?_;refine Cb ?_ ?_<;>intro hc<;>(try exact ⟨⟩)
 .refine Wk qTB1.1 (An @hw @hn) ?_;refine Cb ?_ ?_<;>intro hc<;>(try exact ⟨⟩)
  .refine Wk qTB1.1 (An @hw @hn) ?_;refine Cb ?_ ?_<;>intro hc<;>(try exact ⟨⟩)
   .refine Wk qTB1.1 (An @hw @hn) ?_;refine Fn @results277 qTB1.1 ?_;try exact ⟨⟩
    exact ⟨rfl,rfl,rfl,rfl,rfl,rfl,rfl,rfl,rfl,rfl,rfl,rfl,rfl,rfl,rfl,rfl,rfl,rfl,rfl,rfl,rfl,rfl,rfl,rfl,rfl,rfl,rfl,rfl,rfl⟩
   .contradiction
  .contradiction
 .contradiction
def asked8 (ws:List (List UInt8)):Ask:=⟨8,0,zOrd,⟨#[]⟩,zExe,0,false,⟨wAt ws 1,wAt ws 2,nAt ws 3,nAt ws 4,nAt ws 5,nAt ws 6⟩⟩
theorem asked8_c (ws:List (List UInt8)) (hl:ws.length<=1000) (h:∀w,w∈ws->w.length<=1000):ACall prog 277 [] [I 8,ssD (ws.map str)] (aD (asked8 ws)) []:=by
 have hw:=wAt_c ws hl;have hn:=nAt_c ws h;refine Ac func277 ?_;refine Wk qTB1.1 (An @hw @hn) ?_;refine Cb ?_ ?_<;>intro hc<;>(try exact ⟨⟩)
 .contradiction
 .refine Wk qTB1.1 (An @hw @hn) ?_;refine Cb ?_ ?_<;>intro hc<;>(try exact ⟨⟩)
  .contradiction
  .refine Wk qTB1.1 (An @hw @hn) ?_;refine Cb ?_ ?_<;>intro hc<;>(try exact ⟨⟩)
   .contradiction
   .refine Wk qTB1.1 (An @hw @hn) ?_;refine Cb ?_ ?_<;>intro hc<;>(try exact ⟨⟩)
    .contradiction
    .refine Wk qTB1.1 (An @hw @hn) ?_;refine Cb ?_ ?_<;>intro hc<;>(try exact ⟨⟩)
     .contradiction
     .refine Wk qTB1.1 (An @hw @hn) ?_;refine Cb ?_ ?_<;>intro hc<;>(try exact ⟨⟩)
      .contradiction
      .refine Wk qTB1.1 (An @hw @hn) ?_;refine Cb ?_ ?_<;>intro hc<;>(try exact ⟨⟩)
       .contradiction
       .refine Wk qTB1.1 (An @hw @hn) ?_;refine Cb ?_ ?_<;>intro hc<;>(try exact ⟨⟩)
        .contradiction
        .refine Wk qTB1.1 (An @hw @hn) ?_;refine Cb ?_ ?_<;>intro hc<;>(try exact ⟨⟩)
         .contradiction
         .refine Wk qTB1.1 (An @hw @hn) ?_;refine Cb ?_ ?_<;>intro hc<;>(try exact ⟨⟩)
          .contradiction
          .refine Wk qTB1.1 (An @hw @hn) ?_;refine Cb ?_ ?_<;>intro hc<;>(try exact ⟨⟩)
           .contradiction
           .refine Wk qTB1.1 (An @hw @hn) ?_;refine Cb ?_ ?_<;>intro hc<;>(try exact ⟨⟩)
            .refine Wk qTB1.1 (An @hw @hn) ?_;refine Fn @results277 qTB1.1 ?_;try exact ⟨⟩
             exact ⟨rfl,rfl,rfl,rfl,rfl,rfl,rfl,rfl,rfl,rfl,rfl,rfl,rfl,rfl,rfl,rfl,rfl,rfl,rfl,rfl,rfl,rfl,rfl,rfl,rfl,rfl,rfl,rfl,rfl⟩
            .contradiction
def asked3 (ws:List (List UInt8)) (ref:ByteArray):Ask:=⟨3,nAt ws 1,zOrd,⟨#[]⟩,⟨wAt ws 3,ref,wAt ws 5,wAt ws 6,wAt ws 7,placeL (fun i=>str (execsL.getD i [])) (wAt ws 2) 8 1,((wAt ws 8).data.toList == buyS),nAt ws 9,nAt ws 10,nAt ws 11⟩,0,false,zLim⟩
theorem asked3_c (ws:List (List UInt8)) (hl:ws.length<=1000) (h:∀w,w∈ws->w.length<=1000) (ref:ByteArray) (hr:(if (wAt ws 4).data.toList=[45] then ⟨#[]⟩ else wAt ws 4)=ref):ACall prog 277 [] [I 3,ssD (ws.map str)] (aD (asked3 ws ref)) []:=by
 have hw:=wAt_c ws hl;have hn:=nAt_c ws h;have hpl:=place_c (fun i=>str (execsL.getD i [])) (wAt ws 2) _ rfl;refine Ac func277 ?_;refine Wk qTB1.1 (An @hw (An @hn @hpl)) ?_;refine Cb ?_ ?_<;>intro hc<;>(try exact ⟨⟩)
 .contradiction
 .refine Wk qTB1.1 (An @hw (An @hn @hpl)) ?_;refine Cb ?_ ?_<;>intro hc<;>(try exact ⟨⟩)
  .contradiction
  .refine Wk qTB1.1 (An @hw (An @hn @hpl)) ?_;refine Cb ?_ ?_<;>intro hc<;>(try exact ⟨⟩)
   .refine Wk qTB1.1 (An @hw (An @hn @hpl)) ?_;refine Cb ?_ ?_<;>intro hc<;>(try exact ⟨⟩)
    .refine Wk qTB1.1 (An @hw (An @hn @hpl)) ?_;refine Cb ?_ ?_<;>intro hc<;>(try exact ⟨⟩)
     .contradiction
     .refine Wk qTB1.1 (An @hw (An @hn @hpl)) ?_;refine Cb ?_ ?_<;>intro hc<;>(try exact ⟨⟩)
      .contradiction
      .refine Wk qTB1.1 (An @hw (An @hn @hpl)) ?_;refine Cb ?_ ?_<;>intro hc<;>(try exact ⟨⟩)
       .refine Wk qTB1.1 (An @hw (An @hn @hpl)) ?_;refine Cb ?_ ?_<;>intro hc<;>(try exact ⟨⟩)
        .rw[if_pos hc]at hr;subst hr;refine Wk qTB1.1 (An @hw (An @hn @hpl)) ?_;refine Fn @results277 qTB1.1 ?_;try exact ⟨⟩
         exact ⟨rfl,rfl,rfl,rfl,rfl,rfl,rfl,rfl,rfl,rfl,rfl,rfl,rfl,rfl,rfl,rfl,rfl,rfl,rfl,rfl,rfl,rfl,rfl,rfl,rfl,rfl,rfl,rfl,rfl⟩
        .rw[if_neg hc]at hr;subst hr;refine Wk qTB1.1 (An @hw (An @hn @hpl)) ?_;refine Fn @results277 qTB1.1 ?_;try exact ⟨⟩
         exact ⟨rfl,rfl,rfl,rfl,rfl,rfl,rfl,rfl,rfl,rfl,rfl,rfl,rfl,rfl,rfl,rfl,rfl,rfl,rfl,rfl,rfl,rfl,rfl,rfl,rfl,rfl,rfl,rfl,rfl⟩
       .contradiction
    .contradiction
   .contradiction
end
section
open NU
def sideS (b:Bool):ByteArray:=if b then ⟨#[98,117,121]⟩ else ⟨#[115,101,108,108]⟩
def refS (s:ByteArray):ByteArray:=if (s.data.toList == [])=true then ⟨#[45]⟩ else s
noncomputable def words1 (a:Ask):List ByteArray:=[str (asksL.getD 1 []),strN a.ven,a.o.id,a.o.acc,a.o.sym,sideS a.o.buy,strN a.o.qty,strN a.o.price]
def qTW2:=PLift.up (An @NU.Zz @choose_c)
def qTW1:=PLift.up (An @evO_g1 @evO_g2)
theorem words1_c (a:Ask):ACall prog 307 [] [aD { a with kind:=1 }] (ssD (words1 a)) []:=by
 refine Ac func307 ?_;refine Wk qTW1.1 qTW2.1 ?_;refine Cb ?_ ?_<;>intro hc<;>(try exact ⟨⟩)
 .refine Wk qTW1.1 qTW2.1 ?_;refine Fn @results307 qTW1.1 ?_;try exact ⟨⟩
  exact ⟨rfl,by simp⟩
 .contradiction
noncomputable def words8 (a:Ask):List ByteArray:=[str (asksL.getD 8 []),a.l.acc,a.l.sym,strN a.l.long,strN a.l.short,strN a.l.qty,strN a.l.value]
theorem words8_c (a:Ask):ACall prog 307 [] [aD { a with kind:=8 }] (ssD (words8 a)) []:=by
 refine Ac func307 ?_;refine Wk qTW1.1 qTW2.1 ?_;refine Cb ?_ ?_<;>intro hc<;>(try exact ⟨⟩)
 .contradiction
 .refine Wk qTW1.1 qTW2.1 ?_;refine Cb ?_ ?_<;>intro hc<;>(try exact ⟨⟩)
  .contradiction
  .refine Wk qTW1.1 qTW2.1 ?_;refine Cb ?_ ?_<;>intro hc<;>(try exact ⟨⟩)
   .contradiction
   .refine Wk qTW1.1 qTW2.1 ?_;refine Cb ?_ ?_<;>intro hc<;>(try exact ⟨⟩)
    .contradiction
    .refine Wk qTW1.1 qTW2.1 ?_;refine Cb ?_ ?_<;>intro hc<;>(try exact ⟨⟩)
     .contradiction
     .refine Wk qTW1.1 qTW2.1 ?_;refine Cb ?_ ?_<;>intro hc<;>(try exact ⟨⟩)
      .contradiction
      .refine Wk qTW1.1 qTW2.1 ?_;refine Cb ?_ ?_<;>intro hc<;>(try exact ⟨⟩)
       .refine Wk qTW1.1 qTW2.1 ?_;refine Fn @results307 qTW1.1 ?_;try exact ⟨⟩
        exact ⟨rfl,by simp⟩
       .contradiction
noncomputable def words31 (a:Ask):List ByteArray:=[str (asksL.getD 3 []),strN a.ven,str (execsL.getD 1 []),a.x.id,refS a.x.ref,a.x.ord,a.x.acc,a.x.sym,sideS a.x.buy,strN a.x.qty,strN a.x.price,strN a.x.time]
theorem words31_c (a:Ask):ACall prog 307 [] [aD { a with kind:=3,x:={ a.x with kind:=1 } }] (ssD (words31 a)) []:=by
 refine Ac func307 ?_;refine Wk qTW1.1 qTW2.1 ?_;refine Cb ?_ ?_<;>intro hc<;>(try exact ⟨⟩)
 .contradiction
 .refine Wk qTW1.1 qTW2.1 ?_;refine Cb ?_ ?_<;>intro hc<;>(try exact ⟨⟩)
  .contradiction
  .refine Wk qTW1.1 qTW2.1 ?_;refine Cb ?_ ?_<;>intro hc<;>(try exact ⟨⟩)
   .refine Wk qTW1.1 qTW2.1 ?_;refine Fn @results307 qTW1.1 ?_;try exact ⟨⟩
    exact ⟨rfl,by simp⟩
   .contradiction
noncomputable def words32 (a:Ask):List ByteArray:=[str (asksL.getD 3 []),strN a.ven,str (execsL.getD 2 []),a.x.id,refS a.x.ref,a.x.ord,a.x.acc,a.x.sym,sideS a.x.buy,strN a.x.qty,strN a.x.price,strN a.x.time]
theorem words32_c (a:Ask):ACall prog 307 [] [aD { a with kind:=3,x:={ a.x with kind:=2 } }] (ssD (words32 a)) []:=by
 refine Ac func307 ?_;refine Wk qTW1.1 qTW2.1 ?_;refine Cb ?_ ?_<;>intro hc<;>(try exact ⟨⟩)
 .contradiction
 .refine Wk qTW1.1 qTW2.1 ?_;refine Cb ?_ ?_<;>intro hc<;>(try exact ⟨⟩)
  .contradiction
  .refine Wk qTW1.1 qTW2.1 ?_;refine Cb ?_ ?_<;>intro hc<;>(try exact ⟨⟩)
   .refine Wk qTW1.1 qTW2.1 ?_;refine Fn @results307 qTW1.1 ?_;try exact ⟨⟩
    exact ⟨rfl,by simp⟩
   .contradiction
def spS:ByteArray:=⟨#[32]⟩
theorem tshow_c (a:Ask) (ws:List ByteArray) (hw:ACall prog 307 [] [aD a] (ssD ws) []) (hl:ws.length<=1000) (hs:(joinS ws spS).size<=1000000) (he:(putK a).2=0) :
 ACall prog 278 [] [aD a] (.t [.c (.v (vS (joinS ws spS))),.c (.v (vI 0))]) []:=by
 obtain ⟨⟨bs,e⟩,hP⟩:∃y,putK a=y:=⟨_,rfl⟩
 have hput:=kput_c a _ hP;rw[hP]at he;dsimp only at he hput;subst he;have hj:=join_c ws spS hl hs;refine Ac func278 ?_;refine Wk trivial (An @hput (An @hw @hj)) ?_;refine Cb ?_ ?_<;>intro hc<;>(try exact ⟨⟩)
 .contradiction
 .refine Wk trivial (An @hput (An @hw @hj)) ?_;refine Fn @results278 trivial ?_;try exact ⟨⟩
end
section
open NU
abbrev asksT (i:Nat):ByteArray:=str (asksL.getD i [])
def qTQ1:=PLift.up (An @evO_g1 (An @evO_g2 @Zh))
theorem tparse_c (l:List UInt8) (hl:l.length<=256) (ws:List (List UInt8)) (hws:splL 32 l=ws) (k:Int) (hk:placeL asksT (wAt ws 0) 8 1=k) (hk0:k≠0) (a:Ask)
 (ha:ACall prog 277 [] [I k,ssD (ws.map str)] (aD a) []) (hsh:ACall prog 278 [] [aD a] (.t [.c (.v (vS (str l))),.c (.v (vI 0))]) []) :
 ACall prog 241 [] [StD (str l)] (.t [.a (aC a),.c (.v (vI 0))]) []:=by
 have hsp:=split2_c l 32 (by omega);rw[hws]at hsp;have hpl:=place_c asksT (wAt ws 0) k hk;have hlen:ws.length=l.count 32+1:=by rw[<-hws,splL_len]
 have hzl:(((str l).size:Nat):Int)=l.length:=rfl
 have hw0:(ws.map str).getD 0 default=wAt ws 0:=by
  unfold wAt;rw[List.getD_eq_getElem?_getD,List.getElem?_map,List.getD_eq_getElem?_getD]
  cases ws with
  | nil=>simp at hlen
  | cons w r=>rfl
 refine Ac func241 ?_;refine Wk (An @hw0 qTQ1.1) (An @hsp (An @hpl (An @ha @hsh))) ?_;refine Cb ?_ ?_<;>intro hc<;>(try exact ⟨⟩)
 .omega
 .refine Wk (An @hw0 qTQ1.1) (An @hsp (An @hpl (An @ha @hsh))) ?_;refine Cb ?_ ?_<;>intro hc<;>(try exact ⟨⟩)
  .contradiction
  .refine Wk (An @hw0 qTQ1.1) (An @hsp (An @hpl (An @ha @hsh))) ?_;refine Cb ?_ ?_<;>intro hc<;>(try exact ⟨⟩)
   .contradiction
   .refine Wk (An @hw0 qTQ1.1) (An @hsp (An @hpl (An @ha @hsh))) ?_;refine Fn @results241 (An @hw0 qTQ1.1) ?_;try exact ⟨⟩
end
section
open NU
theorem dask8_c (k:Kee) (g:Gat) (hk:keeP k) (hg:gatP g) (ws:List ByteArray) (hl:ws.length<=1000) (l:List UInt8) (hll:l.length<=1000) (hjs:joinS ws spS=str l) (a:Ask) (ha:4<=a.kind)
 (hpa:ACall prog 241 [] [StD (str l)] (.t [.a (aC a),.c (.v (vI 0))]) []) (r:(Kee×Gat)×Int×Int) (hr:doK k g a=r) (h0:r.2.2=0) :
 ACall prog 191 [.loc (keC k g)] [.p 0 0,ssD ws] (StD ⟨#[111,107]⟩) [.loc (keC r.1.1 r.1.2)]:=by
 have hj:=join_c ws spS hl (by rw[hjs];show l.length<=_;omega);rw[hjs]at hj;have hdo:=do_c k g a hk hg r hr;obtain ⟨⟨k1,g1⟩,n,e⟩:=r;dsimp only at hdo h0 ⊢;subst h0;refine Ac func191 ?_;refine Wk trivial (An @hj (An @hpa @hdo)) ?_;refine Cb ?_ ?_<;>intro hc<;>(try exact ⟨⟩)
 .contradiction
 .refine Wk trivial (An @hj (An @hpa @hdo)) ?_;refine Cb ?_ ?_<;>intro hc<;>(try exact ⟨⟩)
  .contradiction
  .refine Wk trivial (An @hj (An @hpa @hdo)) ?_;refine Cb ?_ ?_<;>intro hc<;>(try exact ⟨⟩)
   .omega
   .refine Wk trivial (An @hj (An @hpa @hdo)) ?_;refine Cb ?_ ?_<;>intro hc<;>(try exact ⟨⟩)
    .omega
    .refine Wk trivial (An @hj (An @hpa @hdo)) ?_;refine Cb ?_ ?_<;>intro hc<;>(try exact ⟨⟩)
     .omega
     .refine Wk trivial (An @hj (An @hpa @hdo)) ?_;refine Fs @results191 ?_;refine ⟨[0],[],[],by kernel_rfl,?_,?_⟩<;>((refine Lw trivial ?_;try exact ⟨⟩);try (first|omega|rfl))
theorem dask1_c (k:Kee) (g:Gat) (hk:keeP k) (hg:gatP g) (ws:List ByteArray) (hl:ws.length<=1000) (l:List UInt8) (hll:l.length<=1000) (hjs:joinS ws spS=str l) (a:Ask) (ha:a.kind=1)
 (hpa:ACall prog 241 [] [StD (str l)] (.t [.a (aC a),.c (.v (vI 0))]) []) (r:(Kee×Gat)×Int×Int) (hr:doK k g a=r) (h0:r.2.2=0) (hn:r.2.1=0) :
 ACall prog 191 [.loc (keC k g)] [.p 0 0,ssD ws] (StD ⟨#[108,101,116]⟩) [.loc (keC r.1.1 r.1.2)]:=by
 have hj:=join_c ws spS hl (by rw[hjs];show l.length<=_;omega);rw[hjs]at hj;have hdo:=do_c k g a hk hg r hr;obtain ⟨⟨k1,g1⟩,n,e⟩:=r;dsimp only at hdo h0 hn ⊢;subst h0;subst hn;refine Ac func191 ?_;refine Wk trivial (An @hj (An @hpa @hdo)) ?_;refine Cb ?_ ?_<;>intro hc<;>(try exact ⟨⟩)
 .contradiction
 .refine Wk trivial (An @hj (An @hpa @hdo)) ?_;refine Cb ?_ ?_<;>intro hc<;>(try exact ⟨⟩)
  .contradiction
  .refine Wk trivial (An @hj (An @hpa @hdo)) ?_;refine Cb ?_ ?_<;>intro hc<;>(try exact ⟨⟩)
   .refine Wk trivial (An @hj (An @hpa @hdo)) ?_;refine Cb ?_ ?_<;>intro hc<;>(try exact ⟨⟩)
    .refine Wk trivial (An @hj (An @hpa @hdo)) ?_;refine Cb ?_ ?_<;>intro hc<;>(try exact ⟨⟩)
     .refine Wk trivial (An @hj (An @hpa @hdo)) ?_;refine Fs @results191 ?_;refine ⟨[0],[],[],by kernel_rfl,?_,?_⟩<;>((refine Lw trivial ?_;try exact ⟨⟩);try (first|omega|rfl))
     .contradiction
    .contradiction
   .omega
theorem dask3_c (k:Kee) (g:Gat) (hk:keeP k) (hg:gatP g) (ws:List ByteArray) (hl:ws.length<=1000) (l:List UInt8) (hll:l.length<=1000) (hjs:joinS ws spS=str l) (a:Ask) (ha:a.kind=3)
 (hpa:ACall prog 241 [] [StD (str l)] (.t [.a (aC a),.c (.v (vI 0))]) []) (r:(Kee×Gat)×Int×Int) (hr:doK k g a=r) (h0:r.2.2=0) (i:Nat) (hi:i<100) (hn:r.2.1=i) :
 ACall prog 191 [.loc (keC k g)] [.p 0 0,ssD ws] (StD ⟨(Lib.decDigits i).toArray⟩) [.loc (keC r.1.1 r.1.2)]:=by
 have hj:=join_c ws spS hl (by rw[hjs];show l.length<=_;omega);rw[hjs]at hj;have hdo:=do_c k g a hk hg r hr;obtain ⟨⟨k1,g1⟩,n,e⟩:=r;dsimp only at hdo h0 hn ⊢;subst h0;subst hn;have hit:=itoa_c i hi;refine Ac func191 ?_;refine Wk trivial (An @hj (An @hpa (An @hdo @hit))) ?_;refine Cb ?_ ?_<;>intro hc<;>(try exact ⟨⟩)
 .contradiction
 .refine Wk trivial (An @hj (An @hpa (An @hdo @hit))) ?_;refine Cb ?_ ?_<;>intro hc<;>(try exact ⟨⟩)
  .contradiction
  .refine Wk trivial (An @hj (An @hpa (An @hdo @hit))) ?_;refine Cb ?_ ?_<;>intro hc<;>(try exact ⟨⟩)
   .omega
   .refine Wk trivial (An @hj (An @hpa (An @hdo @hit))) ?_;refine Cb ?_ ?_<;>intro hc<;>(try exact ⟨⟩)
    .omega
    .refine Wk trivial (An @hj (An @hpa (An @hdo @hit))) ?_;refine Cb ?_ ?_<;>intro hc<;>(try exact ⟨⟩)
     .refine Wk trivial (An @hj (An @hpa (An @hdo @hit))) ?_;refine Fs @results191 ?_;refine ⟨[0],[],[],by kernel_rfl,?_,?_⟩<;>((refine Lw trivial ?_;try exact ⟨⟩);try (first|omega|rfl))
     .omega
end
section
open NU
theorem evO_nilP (En:Nat->D):evO En (.const (.pointer none))=.e (.c (.v (.x (.pointer none)))):=rfl
theorem sz32:ByteArray.size ⟨#[32]⟩=1:=rfl
def qLE1:=PLift.up (An @Zh (An @evO_nilP @sz32))
theorem newDesk_c:ACall prog 131 [] [] (.p 0 0) [.loc (keC (newE 1 100) (newG 1 100))]:=by
 have hnew:ACall prog 7 [] [I 1,I 100] (.t [.a (keC (newE 1 100) (newG 1 100)),.c (.v (vI 0))]) []:=knew_c 1 100 (by omega) (by omega) (by unfold timeP;omega);refine Ac func131 ?_;refine Wk qLE1.1 (An @hnew @NU.Zz) ?_;refine Fs @results131 ?_;refine ⟨[],[(0,640)],[],by kernel_rfl,?_,?_⟩<;>((refine Lw qLE1.1 ?_;try exact ⟨⟩);try (first|omega|rfl))
theorem splL_le (c:UInt8):∀(l w:List UInt8),w∈splL c l->w.length<=l.length
 | [],w,h=>by simp[splL]at h;subst h;exact Nat.zero_le _
 | b::l,w,h=>by
  by_cases hb:b=c
  .subst hb;rw[splL_hit]at h;rcases List.mem_cons.1 h with rfl|h
   .exact Nat.zero_le _
   .exact Nat.le_succ_of_le (splL_le b l w h)
  .cases hs:splL c l with
   | nil=>exact absurd hs (splL_ne c l)
   | cons x r =>
    rw[splL_miss hb hs]at h;have hin:∀y,y∈x::r->y.length<=l.length:=fun y hy=>splL_le c l y (hs ▸ hy);rcases List.mem_cons.1 h with rfl|h
    .exact Nat.succ_le_succ (hin x (List.mem_cons_self ..))
    .exact Nat.le_succ_of_le (hin w (List.mem_cons_of_mem _ h))
theorem lines_c (l:List UInt8) (hl:l.length<=2048) (hc:l.count 10<512):ACall prog 132 [] [StD (str l)] (.t [.c (.v (ssV ((splL 10 l).map str))),.c (.v (vI 0))]) []:=by
 have hcn:ACall prog 184 [] [StD (str l),StD (oneS 10)] (I (l.count 10)) []:=countS_c (str l) 10;have hsp:=split2_c l 10 (by omega);refine Ac func132 ?_;refine Wk qLE1.1 (An @hcn (An @hsp @NU.Zz)) ?_;refine Cb ?_ ?_<;>intro hc<;>(try exact ⟨⟩)
 .omega
 .refine Wk qLE1.1 (An @hcn (An @hsp @NU.Zz)) ?_;have hln:(splL 10 l).length=l.count 10+1:=splL_len 10 l;refine AWp.loop (fun i:Nat=>mkSt [(4,ssD ((splL 10 l).map str)),(12,ssD ((splL 10 l).map str)),(13,I (splL 10 l).length),(14,I i)] [] 0) (fun i=>i<=(splL 10 l).length) (fun i=>(splL 10 l).length - i) 0 (Nat.zero_le _) (by refine Le.of (τ:=[]) (ν:=[]) (by kernel_rfl) ?_ ?_<;>((refine Lw qLE1.1 ?_;try exact ⟨⟩);try (first|omega|rfl|(simp;done)))) fun i hi=>?_;refine Wk qLE1.1 (An @hcn (An @hsp @NU.Zz)) ?_;refine Cb ?_ ?_<;>intro hc<;>(try exact ⟨⟩)
  .have hil:i<((splL 10 l).map str).length:=by rw[List.length_map];omega
   refine Wk qLE1.1 (An @hcn (An @hsp @NU.Zz)) ?_;refine Cb ?_ ?_<;>intro hc<;>(try exact ⟨⟩)
   .exfalso
    have hm:((splL 10 l).map str).getD i default∈(splL 10 l).map str:=by
     rw[List.getD_eq_getElem?_getD,List.getElem?_eq_getElem hil];exact List.getElem_mem hil
    obtain ⟨w,hw,he⟩:=List.mem_map.1 hm;have hwl:=splL_le 10 l w hw;rw[<-he]at hc;have:(str w).size=w.length:=rfl;omega
   .refine Wk qLE1.1 (An @hcn (An @hsp @NU.Zz)) ?_;refine Za (i+1) (by rw[List.length_map]at hil;omega) (by rw[List.length_map]at hil;omega) (by refine Le.of (τ:=[]) (ν:=[]) (by kernel_rfl) ?_ ?_<;>((refine Lw qLE1.1 ?_;try exact ⟨⟩);try omega))
  .refine Wk qLE1.1 (An @hcn (An @hsp @NU.Zz)) ?_;refine Fn @results132 qLE1.1 ?_;try exact ⟨⟩
theorem dworst_c (k:Kee) (g:Gat) (hg:gatP g) (x a s:ByteArray) (ha:a.data.toList≠[]) (hs:s.data.toList≠[]) (h1:(str (showL (worstG g a s).1)).size<=1000) (h2:(str (showL (worstG g a s).2)).size<=1000) :
 ACall prog 189 [.loc (keC k g)] [.p 0 0,ssD [x,a,s]] (StD (strN (worstG g a s).1++⟨#[32]⟩++strN (worstG g a s).2)) [.loc (keC k g)]:=by
 have hgw:=gworst_c g a s hg;have hsa:((str (showL (worstG g a s).1))++(⟨#[32]⟩:ByteArray)).size=(str (showL (worstG g a s).1)).size+1:=ByteArray.size_append;have he1:(a.data.toList == [])=false:=by simpa using ha
 have he2:(s.data.toList == [])=false:=by simpa using hs
 refine Ac func189 ?_;refine Wk (An @he1 (An @he2 (An @hsa qLE1.1))) (An @hgw @NU.Zz) ?_;refine Cb ?_ ?_<;>intro hc<;>(try exact ⟨⟩)
 .contradiction
 .refine Wk (An @he1 (An @he2 (An @hsa qLE1.1))) (An @hgw @NU.Zz) ?_;refine Fs @results189 ?_;refine ⟨[0],[],[],by kernel_rfl,?_,?_⟩<;>((refine Lw (An @he1 (An @he2 (An @hsa qLE1.1))) ?_;try exact ⟨⟩);try (first|omega|rfl))
end
section
open NU
theorem evO_fn (En:Nat->D) (f:Nat):evO En (.func f)=.e (.c (.v (.x (.func (.func f) #[] #[])))):=rfl
def deedN (s:ByteArray):Nat :=
 if s.data.toList=[118,101,110,117,101,115] then 186
 else if s.data.toList=[99,97,110,99,101,108] then 187
 else if s.data.toList=[115,116,97,110,100,115] then 188
 else if s.data.toList=[119,111,114,115,116] then 189
 else if s.data.toList=[112,111,115,105,116,105,111,110,115] then 190
 else 191
def qLF1:=PLift.up (An @evO_nilF @evO_fn)
theorem deed_c (s:ByteArray) (n:Nat) (hn:deedN s=n):ACall prog 134 [] [StD s] (.e (.c (.v (.x (.func (.func n) #[] #[]))))) []:=by
 unfold deedN at hn;refine Ac func134 ?_;refine Wk qLF1.1 trivial ?_;refine Cb ?_ ?_<;>intro hc<;>(try exact ⟨⟩)
 .rw[if_pos hc]at hn;subst hn;refine Wk qLF1.1 trivial ?_;refine Fn @results134 qLF1.1 ?_;try exact ⟨⟩
 .rw[if_neg hc]at hn;refine Wk qLF1.1 trivial ?_;refine Cb ?_ ?_<;>intro hc<;>(try exact ⟨⟩)
  .rw[if_pos hc]at hn;subst hn;refine Wk qLF1.1 trivial ?_;refine Fn @results134 qLF1.1 ?_;try exact ⟨⟩
  .rw[if_neg hc]at hn;refine Wk qLF1.1 trivial ?_;refine Cb ?_ ?_<;>intro hc<;>(try exact ⟨⟩)
   .rw[if_pos hc]at hn;subst hn;refine Wk qLF1.1 trivial ?_;refine Fn @results134 qLF1.1 ?_;try exact ⟨⟩
   .rw[if_neg hc]at hn;refine Wk qLF1.1 trivial ?_;refine Cb ?_ ?_<;>intro hc<;>(try exact ⟨⟩)
    .rw[if_pos hc]at hn;subst hn;refine Wk qLF1.1 trivial ?_;refine Fn @results134 qLF1.1 ?_;try exact ⟨⟩
    .rw[if_neg hc]at hn;refine Wk qLF1.1 trivial ?_;refine Cb ?_ ?_<;>intro hc<;>(try exact ⟨⟩)
     .rw[if_pos hc]at hn;subst hn;refine Wk qLF1.1 trivial ?_;refine Fn @results134 qLF1.1 ?_;try exact ⟨⟩
     .rw[if_neg hc]at hn;subst hn;refine Wk qLF1.1 trivial ?_;refine Fn @results134 qLF1.1 ?_;try exact ⟨⟩
end
section
open NU
def qLP1:=PLift.up (An @Zh @evO_fn)
theorem play_run (l:List UInt8) (hl:l.length<=2048) (hc:l.count 10<512) (ls:List (List UInt8)) (hls:splL 10 l=ls) (ke:Nat->Kee) (ga:Nat->Gat) (T:Nat->ByteArray)
 (hk0:ke 0=newE 1 100) (hg0:ga 0=newG 1 100) (hok:∀i,i<ls.length->∃b r,ls.getD i []=b::r/\b≠35)
 (hstep:∀i,i<ls.length->ACall prog (deedN (wAt (splL 32 (ls.getD i [])) 0)) [.loc (keC (ke i) (ga i))] [.p 0 0,ssD ((splL 32 (ls.getD i [])).map str)] (StD (T i)) [.loc (keC (ke (i+1)) (ga (i+1)))]) :
 ACall prog 80 [] [StD (str l)] (.t [.c (.v (ssV ((List.range ls.length).map T))),.a (gtC (ga ls.length)),.c (.v (vI 0))]) []:=by
 have hlin:=lines_c l hl hc;rw[hls]at hlin;refine Ac func80 ?_;refine Wk qLP1.1 (An @hlin @newDesk_c) ?_;refine Cb ?_ ?_<;>intro hc<;>(try exact ⟨⟩)
 .contradiction
 .refine Wk qLP1.1 (An @hlin @newDesk_c) ?_
  refine AWp.loop (fun i:Nat=>mkSt [(5,.p 0 0),(3,.p 1 0),(8,.e (.c (.o 2 i))),(26,ssD (ls.map str)),(27,I ls.length),(28,I i)]
   [(0,.loc (keC (ke i) (ga i))),(1,.loc gzC),(2,.row 1 (sR ((List.range i).map T)))] 3) (fun i=>i<=ls.length) (fun i=>ls.length - i) 0 (Nat.zero_le _)
   (by rw[hk0,hg0];refine Le.of (τ:=[(0,192),(1,64)]) (ν:=[2]) (by kernel_rfl) ?_ ?_<;>((refine Lw qLP1.1 ?_;try exact ⟨⟩);try (first|omega|rfl|(simp;done)|exact ⟨rfl,rfl⟩))) fun i hi=>?_
  refine Wk qLP1.1 (An @hlin @newDesk_c) ?_;refine Cb ?_ ?_<;>intro hc<;>(try exact ⟨⟩)
  .have hil:i<ls.length:=by omega
   obtain ⟨b,r,hbr,hb⟩:=hok i hil;have hst:=hstep i hil;rw[hbr]at hst
   have hmem:b::r∈splL 10 l:=by
    rw[hls,<-hbr,List.getD_eq_getElem?_getD,List.getElem?_eq_getElem hil];exact List.getElem_mem hil
   have hle:=splL_le 10 l _ hmem;have hsp:=split2_c (b::r) 32 (by omega);have hdeed:=deed_c (wAt (splL 32 (b::r)) 0) _ rfl
   have hge:(ls.map str).getD i default=str (b::r):=by
    rw[<-hbr,List.getD_eq_getElem?_getD,List.getElem?_map,List.getD_eq_getElem?_getD,List.getElem?_eq_getElem hil];rfl
   have hgw:((splL 32 (b::r)).map str).getD 0 default=wAt (splL 32 (b::r)) 0:=by
    unfold wAt;rw[List.getD_eq_getElem?_getD,List.getElem?_map,List.getD_eq_getElem?_getD]
    cases hx:splL 32 (b::r) with
    | nil=>exact absurd hx (splL_ne 32 _)
    | cons w t=>rfl
   have hsl:=splL_len 32 (b::r);have hlsl:ls.length<=512:=by rw[<-hls,splL_len];omega
   have hzr:(0:Int)<((str (b::r)).size:Int):=by show (0:Int)<((r.length+1:Nat):Int);omega
   refine Wk (An @hge (An @hgw qLP1.1)) (An @hlin (An @hsp (An @hdeed (An @hst @newDesk_c)))) ?_;refine Cb ?_ ?_<;>intro hc<;>(try exact ⟨⟩)
   .exfalso;rcases hc with hc|hc
    .cases hc
    .have h35:((b.toNat:Nat):Int)=35:=hc;exact hb (UInt8.toNat_inj.1 (by show b.toNat=35;omega))
   .refine Wk (An @hge (An @hgw qLP1.1)) (An @hlin (An @hsp (An @hdeed (An @hst @newDesk_c)))) ?_
    have hrows:sR ((List.range (i+1)).map T)=List.take i (sR ((List.range i).map T))++[[vS (T i)]]:=by
     rw[List.take_of_length_le (by simp),List.range_succ,List.map_append];exact List.map_append
    refine Za (i+1) (show i+1<=ls.length by omega) (by omega) (by refine Le.of (τ:=[(2,1475)]) (ν:=[]) (by kernel_rfl) ?_ ?_<;>((refine Lw (An @hge (An @hgw qLP1.1)) ?_;try exact ⟨⟩);try (first|omega|exact hrows|rfl|exact ⟨rfl,hrows⟩|(simp;done))))
  .have e:i=ls.length:=by omega
   subst e;refine Wk qLP1.1 (An @hlin @newDesk_c) ?_;refine Fn @results80 qLP1.1 ?_;try exact ⟨⟩
   exact ⟨(List.take_of_length_le (by simp)).symm,by simp⟩
theorem Play_run (s:ByteArray) (ts:List ByteArray) (g:Gat) (hp:ACall prog 80 [] [StD s] (.t [.c (.v (ssV ts)),.a (gtC g),.c (.v (vI 0))]) []):ACall prog 29 [] [StD s] (.t [.c (.v (ssV ts)),.c (.v (vI 0))]) []:=by
 refine Ac func29 ?_;refine Wk qLP1.1 @hp ?_;refine Fn @results29 qLP1.1 ?_;try exact ⟨⟩
end
section
open NU
def script:List UInt8:=[108,105,109,105,116,32,97,32,115,32,49,48,32,49,48,32,49,48,32,49,48,48,48,10,111,114,100,101,114,32,48,32,111,32,97,32,115,32,98,117,121,32,55,32,53,48,10,116,111,108,100,32,48,32,110,101,119,32,101,49,32,45,32,111,32,97,32,115,32,98,117,121,32,55,32,53,48,32,49,10,116,111,108,100,32,48,32,102,105,108,108,32,101,50,32,45,32,111,32,97,32,115,32,98,117,121,32,51,32,53,48,32,50,10,112,111,115,105,116,105,111,110,115,10,119,111,114,115,116,32,97,32,115]
theorem works_of (ts:List ByteArray) (hp:ACall prog 29 [] [StD (str script)] (.t [.c (.v (ssV ts)),.c (.v (vI 0))]) []) (hl:ts.length=6)
 (h4:ts.getD 4 default=str [97,58,115,58,51,58,49,53,48]) (h5:ts.getD 5 default=str [55,32,48]):ACall prog 6 [] [] (B true) []:=by
 obtain ⟨t0,t1,t2,t3,t4,t5,rfl⟩:∃a b c d e f,ts=[a,b,c,d,e,f]:=by
  match ts,hl with
  | [a,b,c,d,e,f],_=>exact ⟨a,b,c,d,e,f,rfl⟩
 have e4:t4=str [97,58,115,58,51,58,49,53,48]:=h4;have e5:t5=str [55,32,48]:=h5;subst e4 e5;refine Ac func6 ?_;refine Wk trivial @hp ?_;refine Fn @results6 trivial ?_;try exact ⟨⟩
end
section
open NU
def lnS:List (List UInt8):=[[108,105,109,105,116,32,97,32,115,32,49,48,32,49,48,32,49,48,32,49,48,48,48],[111,114,100,101,114,32,48,32,111,32,97,32,115,32,98,117,121,32,55,32,53,48],[116,111,108,100,32,48,32,110,101,119,32,101,49,32,45,32,111,32,97,32,115,32,98,117,121,32,55,32,53,48,32,49],[116,111,108,100,32,48,32,102,105,108,108,32,101,50,32,45,32,111,32,97,32,115,32,98,117,121,32,51,32,53,48,32,50],[112,111,115,105,116,105,111,110,115],[119,111,114,115,116,32,97,32,115]]
theorem ln_script:splL 10 script=lnS:=by decide
def wd0:List (List UInt8):=[[108,105,109,105,116],[97],[115],[49,48],[49,48],[49,48],[49,48,48,48]]
theorem wd0_eq:splL 32 (lnS.getD 0 [])=wd0:=by decide
def wd1:List (List UInt8):=[[111,114,100,101,114],[48],[111],[97],[115],[98,117,121],[55],[53,48]]
theorem wd1_eq:splL 32 (lnS.getD 1 [])=wd1:=by decide
def wd2:List (List UInt8):=[[116,111,108,100],[48],[110,101,119],[101,49],[45],[111],[97],[115],[98,117,121],[55],[53,48],[49]]
theorem wd2_eq:splL 32 (lnS.getD 2 [])=wd2:=by decide
def wd3:List (List UInt8):=[[116,111,108,100],[48],[102,105,108,108],[101,50],[45],[111],[97],[115],[98,117,121],[51],[53,48],[50]]
theorem wd3_eq:splL 32 (lnS.getD 3 [])=wd3:=by decide
def wd4:List (List UInt8):=[[112,111,115,105,116,105,111,110,115]]
theorem wd4_eq:splL 32 (lnS.getD 4 [])=wd4:=by decide
def wd5:List (List UInt8):=[[119,111,114,115,116],[97],[115]]
theorem wd5_eq:splL 32 (lnS.getD 5 [])=wd5:=by decide
theorem pl8:placeL asksT (wAt wd0 0) 8 1=8:=by decide
theorem pl1:placeL asksT (wAt wd1 0) 8 1=1:=by decide
theorem pl3:placeL asksT (wAt wd2 0) 8 1=3:=by decide
theorem shw_0:showL 0=[48]:=by rw[Ye (by unfold okN;omega)];kernel_rfl
theorem shw_1:showL 1=[49]:=by rw[Ye (by unfold okN;omega)];kernel_rfl
theorem shw_2:showL 2=[50]:=by rw[Ye (by unfold okN;omega)];kernel_rfl
theorem shw_3:showL 3=[51]:=by rw[Ye (by unfold okN;omega)];kernel_rfl
theorem shw_7:showL 7=[55]:=by rw[Ye (by unfold okN;omega)];kernel_rfl
theorem shw_10:showL 10=[49,48]:=by rw[Ye (by unfold okN;omega)];kernel_rfl
theorem shw_50:showL 50=[53,48]:=by rw[Ye (by unfold okN;omega)];kernel_rfl
theorem shw_1000:showL 1000=[49,48,48,48]:=by rw[Ye (by unfold okN;omega)];kernel_rfl
theorem shw_150:showL 150=[49,53,48]:=by rw[Ye (by unfold okN;omega)];kernel_rfl
theorem shw_8:showL 8=[56]:=by rw[Ye (by unfold okN;omega)];kernel_rfl
end
section
open NU
theorem may0:mayK (asked8 wd0)=true:=by decide
theorem may1:mayK (asked1 wd1)=true:=by decide
theorem may2:mayK (asked3 wd2 ⟨#[]⟩)=true:=by decide
theorem may3:mayK (asked3 wd3 ⟨#[]⟩)=true:=by decide
theorem a0_eq:asked8 wd0=⟨8,0,zOrd,⟨#[]⟩,zExe,0,false,⟨str [97],str [115],10,10,10,1000⟩⟩:=by
 unfold asked8 nAt;rw[show numW (wd0.getD (3:Int).toNat [])=10 by decide,show numW (wd0.getD (4:Int).toNat [])=10 by decide,show numW (wd0.getD (5:Int).toNat [])=10 by decide,show numW (wd0.getD (6:Int).toNat [])=1000 by decide];rfl
end
end Eng
end Go.Proofs.YtgenjpingdkmgaaGreatDoor
