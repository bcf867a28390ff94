/- Contracts of functions that this seat's law calls. No condition. -/
import Derived.Shelf.SlSortCmp.NoneTotal
import Derived.Test.YtgenjpingdkmgaaGreatDoorD22
import Derived.Test.YtgenjpingdkmgaaGreatDoorD25
set_option maxRecDepth 100000
set_option linter.unusedSimpArgs false
set_option linter.unusedVariables false
open Go.Proofs.Tryz
namespace Go.Proofs.YtgenjpingdkmgaaGreatDoor
def layN_ren:Go.Shelf.Ren:=⟨fun|6=>36|14=>107|15=>108|20=>163|21=>164|22=>165|23=>166|24=>167|25=>168|26=>169|27=>170|28=>171|29=>172|46=>217|47=>218|48=>219|49=>220|50=>221|57=>259|n=>n,fun|0=>0|3=>3|4=>4|5=>5|9=>9|22=>107|24=>111|25=>115|39=>192|45=>255|46=>256|50=>187|53=>246|55=>209|66=>313|70=>317|76=>352|77=>151|n=>n,fun|n=>n⟩
theorem layN:SlLaysF0.n6 prog layN_ren where
 mixed:=by kernel_rfl
 f6:=⟨ "slices.SortFunc[[]checkroll/ledger.name,checkroll/ledger.name]",by decide,func36.trans (congrArg some (by kernel_rfl))⟩
 f14:=⟨ "slices.pdqsortCmpFunc[checkroll/ledger.name]",by decide,func107.trans (congrArg some (by kernel_rfl))⟩
 f15:=func108.trans (congrArg some (by kernel_rfl))
 f20:=⟨ "slices.insertionSortCmpFunc[checkroll/ledger.name]",by decide,func163.trans (congrArg some (by kernel_rfl))⟩
 f21:=⟨ "slices.heapSortCmpFunc[checkroll/ledger.name]",by decide,func164.trans (congrArg some (by kernel_rfl))⟩
 f22:=⟨ "slices.breakPatternsCmpFunc[checkroll/ledger.name]",by decide,func165.trans (congrArg some (by kernel_rfl))⟩
 f23:=⟨ "slices.choosePivotCmpFunc[checkroll/ledger.name]",by decide,func166.trans (congrArg some (by kernel_rfl))⟩
 f24:=⟨ "slices.reverseRangeCmpFunc[checkroll/ledger.name]",by decide,func167.trans (congrArg some (by kernel_rfl))⟩
 f25:=⟨ "slices.partialInsertionSortCmpFunc[checkroll/ledger.name]",by decide,func168.trans (congrArg some (by kernel_rfl))⟩
 f26:=⟨ "slices.partitionEqualCmpFunc[checkroll/ledger.name]",by decide,func169.trans (congrArg some (by kernel_rfl))⟩
 f27:=⟨ "slices.partitionCmpFunc[checkroll/ledger.name]",by decide,func170.trans (congrArg some (by kernel_rfl))⟩
 f28:=func171.trans (congrArg some (by kernel_rfl))
 f29:=func172.trans (congrArg some (by kernel_rfl))
 f46:=⟨ "slices.siftDownCmpFunc[checkroll/ledger.name]",by decide,func217.trans (congrArg some (by kernel_rfl))⟩
 f47:=func218.trans (congrArg some (by kernel_rfl))
 f48:=func219.trans (congrArg some (by kernel_rfl))
 f49:=⟨ "slices.medianAdjacentCmpFunc[checkroll/ledger.name]",by decide,func220.trans (congrArg some (by kernel_rfl))⟩
 f50:=⟨ "slices.medianCmpFunc[checkroll/ledger.name]",by decide,func221.trans (congrArg some (by kernel_rfl))⟩
 f57:=⟨ "slices.order2CmpFunc[checkroll/ledger.name]",by decide,func259.trans (congrArg some (by kernel_rfl))⟩
 t0:=underlying0
 a0:=isAgg0
 z0:=sizeOf0
 v0:=zeroValue0
 t3:=underlying3
 a3:=isAgg3
 z3:=sizeOf3
 v3:=zeroValue3
 t4:=underlying4
 a4:=isAgg4
 z4:=sizeOf4
 v4:=zeroValue4
 t5:=underlying5
 a5:=isAgg5
 z5:=sizeOf5
 v5:=zeroValue5
 t9:=underlying9
 a9:=isAgg9
 z9:=sizeOf9
 v9:=zeroValue9
 t22:=underlying107
 a22:=isAgg107
 z22:=sizeOf107
 v22:=zeroValue107
 t25:=underlying115
 a25:=isAgg115
 z25:=sizeOf115
 v25:=zeroValue115
 t39:=underlying192
 a39:=isAgg192
 z39:=sizeOf192
 v39:=zeroValue192
 t45:=underlying255
 a45:=isAgg255
 z45:=sizeOf255
 v45:=zeroValue255
 t46:=underlying256
 a46:=isAgg256
 z46:=sizeOf256
 v46:=zeroValue256
 t50:=underlying187
 a50:=isAgg187
 z50:=sizeOf187
 v50:=zeroValue187
 t53:=underlying246
 a53:=isAgg246
 z53:=sizeOf246
 v53:=zeroValue246
 t55:=underlying209
 a55:=isAgg209
 z55:=sizeOf209
 v55:=zeroValue209
 t66:=underlying313
 a66:=isAgg313
 z66:=sizeOf313
 v66:=zeroValue313
 t70:=underlying317
 a70:=isAgg317
 z70:=sizeOf317
 v70:=zeroValue317
 t76:=underlying352
 a76:=isAgg352
 z76:=sizeOf352
 v76:=zeroValue352
 t77:=underlying151
 a77:=isAgg151
 z77:=sizeOf151
 v77:=zeroValue151
namespace Eng
open Go.RowKit Go.Maps Go.Sort Go.Shelf
theorem ltN_iff {a b:Nam}:ltOf cmpN a b=true↔cmpN a b<0:=by unfold ltOf;simp
theorem ltN_no {a b:Nam}:ltOf cmpN a b=false↔NA.leP (toP b) (toP a):=by
 rw[<-NA.not_lt];unfold ltOf;exact decide_eq_false_iff_not
theorem swoN:SWO (ltOf cmpN) where
 irrefl x:=by rw[ltN_no];exact NA.leP_refl _
 trans x y z h1 h2:=by rw[ltN_iff]at *;exact NA.cmpP_trans h1 h2
 ntrans x y z h1 h2:=by rw[ltN_no]at *;exact NA.Yj h2 h1
theorem totN (x y:Nam) (h1:ltOf cmpN x y=false) (h2:ltOf cmpN y x=false):x=y:=by
 rw[<-cmpN_eq];rw[ltN_no]at h1 h2;unfold NA.leP at h1 h2;have:=NA.Yu (toP x) (toP y);unfold cmpN;omega
def sortN (l:List Nam):List Nam:=l.mergeSort fun x y=>!(ltOf cmpN) y x
theorem sortN_len (l:List Nam):(sortN l).length=l.length:=List.length_mergeSort ..
theorem cmpLays37 (blk off size:Nat) (w:World):CmpLays prog 37 #[] encN 2 cmpN blk off size w:=fun _ _ _ _ x y=>cl_raw x y _
theorem sortN_c (l:List Nam) (hl:l.length<=1000000):ACall prog 36 [.row 2 (nR l)] [.e (.c (.o 0 l.length)),NA.fD 37] (.t []) [.row 2 (nR (sortN l))]:=by
 refine ⟨⟨_,func36,by kernel_rfl,by kernel_rfl⟩,fun own0 w ρ vs hm ha=>?_⟩
 match vs,ha with
 | [u,u2],⟨hu,h2,_⟩ =>
  obtain ⟨rfl,_⟩:=rep_x h2;obtain ⟨m,hp,hv⟩:=hu;obtain ⟨hlen,m',hp',hb⟩:=hm.blks 0 _ rfl;rw[hp]at hp';cases hp'
  cases m with
  | nil =>
   obtain ⟨hn,a,rfl⟩:=hv;have:l=[]:=List.eq_nil_of_length_eq_zero hn;subst this;refine (AnyF.slices_SortFunc_none layN a 0 (.func (.func 37) #[] #[]) w).mono ?_;rintro e w' ⟨rfl,rfl⟩;have e:sortN []=[]:=by simp[sortN]
   rw[e]
   exact ⟨_,ρ,rfl,Sub.refl _,⟨[],rfl,trivial⟩,hm⟩
  | blk b base cap =>
   obtain ⟨rfl,hcap⟩:=hv;obtain ⟨h1,cs,T,fr,hh,hf,hsz,hcells⟩:=hb;have hblk:b<w.heap.size:=(Array.getElem?_eq_some_iff.1 hh).1;have hlb:base+l.length*2<=cs.size:=by omega
   have hin:∀t,t<l.length*2->cs[base+t]?=some ((encN (l.toArray[t / 2]!))[t % 2]!):=fun t ht=>by
    have hi:t / 2<l.length:=by omega
    have e1:(nR l)[t / 2]?=some [.x (.string l[t / 2].acc),.x (.string l[t / 2].sym)]:=by simp[hi]
    have e2:l.toArray[t / 2]! = l[t / 2]:=by simp[hi]
    rw[e2];rcases (show t % 2=0\/t % 2=1 by omega) with h|h
    .obtain ⟨x,hx,hr⟩:=hcells (t / 2) _ 0 _ e1 rfl;cases hr;rw[show base+t=base+t / 2*2+0 by omega,hx,h];rfl
    .obtain ⟨x,hx,hr⟩:=hcells (t / 2) _ 1 _ e1 rfl;cases hr;rw[show base+t=base+t / 2*2+1 by omega,hx,h];rfl
   have hnf:∀k,k<cs.size->¬(fr.1<=k/\k<fr.2):=fun k hk=>hf.1.off k hk
   have hH:HoldsK encN 2 w b base l.toArray:=fun j hj=>by
    have hj:j<l.length*2:=by simpa using hj
    rw[get_flatK _ _ _ _ (by simpa using hj)];constructor
    .simp only[World.cell?,hh,Option.isSome_none,Bool.false_eq_true,if_false];exact hin j hj
    .simp only[World.frozen?,hh];have:=hnf (base+j) (by omega);simpa using this
   have eg:∀args w,(callFunc 37 args).run prog w=.ok (.enter 37 args) w:=enters_of func37 (by kernel_rfl) rfl;have hS:=AnyQ.slices_SortFunc_total layN 2 isAgg111 sizeOf111 encN (fun _=>rfl) (fun x v hv=>by simp[encN]at hv;rcases hv with rfl|rfl<;>rfl) cmpN swoN 37 #[] b base cap l.toArray w eg (cmpLays37 b base _ w) hH hblk (by simp;omega) totN;rw[show (l.toArray.toList.mergeSort fun x y=>!(ltOf cmpN) y x)=sortN l from rfl,show l.toArray.size=l.length by simp]at hS;refine hS.mono ?_;rintro e w' ⟨rfl,n,os,rfl⟩;refine ⟨_,ρ,rfl,Sub.refl _,⟨[],rfl,trivial⟩,?_⟩;have hM:=sortN_len l;generalize sortN l=S at hM ⊢
   have hb':(sortWorldK encN 2 w b base n S.toArray os).heap[b]?=some (.cells (putCells id base (flatK encN 2 S.toArray) cs) T fr):=by
    unfold sortWorldK putRowK;rw[heap_grow_old _ _ (by simpa using hblk)];simp[putRow,mapBlock,Sort.ahead,Array.getElem?_modify,hh,onCells]
   obtain ⟨W',hW'⟩:∃W',sortWorldK encN 2 w b base n S.toArray os=W':=⟨_,rfl⟩
   have f1:W'.os=w.os:=by rw[<-hW'];rfl
   have f2:W'.tape=w.tape:=by rw[<-hW'];rfl
   have f3:W'.output=w.output:=by rw[<-hW'];rfl
   have f4:w.heap.size<=W'.heap.size:=by rw[<-hW'];unfold sortWorldK putRowK;simp
   have f5:∀k,k<w.heap.size->k≠b->W'.heap[k]?=w.heap[k]?:=fun k hk hne=>by
    rw[<-hW'];unfold sortWorldK putRowK;rw[heap_grow_old _ _ (by simpa using hk)];have:b≠k:=fun e=>hne (by rw[e]);simp[putRow,mapBlock,Sort.ahead,Array.getElem?_modify,this]
   rw[hW']at hb' ⊢;clear hW'
   have hr:RepB W' (Ow own0 ρ fun i=>[Blk.row 2 (nR l)][i]?) ρ 0 (.row 2 (nR S)):=by
    refine ⟨fun r hr=>?_,_,hp,?_,_,T,fr,hb',hf.size (by simp[putCells]),?_,fun i r j v hi hj=>?_⟩
    .obtain ⟨s,_,rfl⟩:=List.mem_map.1 hr;rfl
    .rw[List.length_map,hM];exact hcap
    .simpa[putCells] using hsz
    .obtain ⟨x,hx,hjv⟩:=rowN_one hi hj;obtain ⟨hil,hxe⟩:=List.getElem?_eq_some_iff.1 hx;have hj2:j<2:=by rcases hjv with ⟨rfl,_⟩|⟨rfl,_⟩<;>omega
     have hk:base+i*2+j<cs.size:=by omega
     have hget:(putCells id base (flatK encN 2 S.toArray) cs)[base+i*2+j]?=some ((encN x)[j]!):=by
      simp only[putCells,Array.getElem?_mapIdx,Array.getElem?_eq_getElem hk,Option.map_some];rw[if_pos ⟨by omega,by rw[size_flatK];simp;omega⟩,id,get_flatK _ _ _ _ (by simp;omega)];have q1:(base+i*2+j - base) / 2=i:=by omega
      have q2:(base+i*2+j - base) % 2=j:=by omega
      rw[q1,q2];simp[hil,hxe]
     rcases hjv with ⟨rfl,rfl⟩|⟨rfl,rfl⟩
     .exact ⟨_,hget,.x _ rfl⟩
     .exact ⟨_,hget,.x _ rfl⟩
   have:=(mem_put hm hp rfl rfl f1 f2 f3 f4 f5 hb' hr).1
   have eH:upd (fun i=>[Blk.row 2 (nR l)][i]?) 0 (some (.row 2 (nR S)))=fun i=>[Blk.row 2 (nR S)][i]?:=by
    funext i
    cases i with
    | zero=>rfl
    | succ i=>simp[upd]
   rwa [eH]at this
end Eng
end Go.Proofs.YtgenjpingdkmgaaGreatDoor
namespace Go.Proofs.YtgenjpingdkmgaaGreatDoor
namespace Eng
def selF (a s:ByteArray) (f:Fil):Bool:=f.lv && hitW a s f.acc f.sym
def sgnF (f:Fil):Int:=if f.buy then f.qty else -f.qty
noncomputable def mulF (f:Fil):Int×Bool:=NA.mulS (sgnF f) f.price
open Classical in
noncomputable def posL (a s:ByteArray) (l:List Fil):NA.Pos :=
 if (∀f,f∈l->(mulF f).2=true)/\(NA.sumS (l.map sgnF)).2=true/\(NA.sumS (l.map fun f=>(mulF f).1)).2=true then ⟨a,s,(NA.sumS (l.map sgnF)).1,(NA.sumS (l.map fun f=>(mulF f).1)).1,false⟩ else ⟨a,s,0,0,true⟩
noncomputable def posOf (b:Bk) (a s:ByteArray):NA.Pos:=posL a s (b.fills.filter (selF a s))
theorem filt_no {p:Fil->Bool} {l:List Fil} {i:Nat} (h:i<l.length) (hp:p (l.getD i default)=false):(l.take (i+1)).filter p=(l.take i).filter p:=by
 rw[List.getD_eq_getElem?_getD,List.getElem?_eq_getElem h,Option.getD_some]at hp;rw[List.take_add_one,List.getElem?_eq_getElem h,List.filter_append,Option.toList_some,List.filter_cons,hp];simp
theorem filt_yes {p:Fil->Bool} {l:List Fil} {i:Nat} (h:i<l.length) (hp:p (l.getD i default)=true):(l.take (i+1)).filter p=(l.take i).filter p++[l.getD i default]:=by
 rw[List.getD_eq_getElem?_getD,List.getElem?_eq_getElem h,Option.getD_some]at hp ⊢;rw[List.take_add_one,List.getElem?_eq_getElem h,List.filter_append,Option.toList_some,List.filter_cons,hp];simp
theorem filt_len {p:Fil->Bool} {l:List Fil} {i:Nat}:((l.take i).filter p).length<=l.length :=
 Nat.le_trans (List.length_filter_le ..) (by rw[List.length_take];omega)
def qLO1:=PLift.up (An @Z1 (An @neg_w (An @List.map_append.{0,0} (An @List.map_cons.{0,0} (An @List.map_nil.{0,0} (An @List.length_append.{0} (An @List.length_cons.{0} (An @List.length_nil.{0} @List.length_map.{0,0}))))))))
theorem lof_c (b:Bk) (acc sym:ByteArray) (h:bkP b) (r:NA.Pos) (hr:posOf b acc sym=r):ACall prog 26 [] [bkD b,StD acc,StD sym] (NA.pD r) []:=by
 have hright:=bkRight_c b h;have hfl:=h.fl;refine Ac func26 ?_;refine Wk qLO1.1 @hright ?_;refine Cb ?_ ?_<;>intro hc<;>(try exact ⟨⟩)
 .contradiction
 .refine Wk qLO1.1 @hright ?_
  refine AWp.loop (fun s:Nat×List Int×List Int=>mkSt [(1,StD acc),(2,StD sym),(6,.p 0 0),(7,.p 1 0),(8,.e (.c (.o 2 s.2.1.length))),(9,.e (.c (.o 3 s.2.2.length))),(27,fsD b.fills),(28,I b.fills.length),(29,I s.1)] [(0,.loc (NA.pC ⟨⟨#[]⟩,⟨#[]⟩,0,0,false⟩)),(1,.loc (NA.pC ⟨acc,sym,0,0,false⟩)),(2,.row 1 (NA.iR s.2.1)),(3,.row 1 (NA.iR s.2.2))] 4)
   (fun s=>s.1<=b.fills.length/\s.2.1=((b.fills.take s.1).filter (selF acc sym)).map sgnF/\s.2.2=((b.fills.take s.1).filter (selF acc sym)).map (fun f=>(mulF f).1)/\∀f,f∈(b.fills.take s.1).filter (selF acc sym)->(mulF f).2=true)
   (fun s=>b.fills.length - s.1) (0,[],[]) ⟨Nat.zero_le _,rfl,rfl,fun f hf=>by simp at hf⟩ (by refine Le.of (τ:=[(0,64),(1,320)]) (ν:=[2,3]) (by kernel_rfl) ?_ ?_<;>((refine Lw qLO1.1 ?_;try exact ⟨⟩);try (first|omega|rfl|exact ⟨rfl,rfl⟩))) fun st hst=>?_
  obtain ⟨i,qs,vs⟩:=st;obtain ⟨hi,hqs,hvs,hov⟩:=hst;dsimp only at hi hqs hvs hov ⊢;have hql:qs.length<=b.fills.length:=by rw[hqs,List.length_map];exact filt_len
  have hvl:vs.length<=b.fills.length:=by rw[hvs,List.length_map];exact filt_len
  refine Wk qLO1.1 @hright ?_;refine Cb ?_ ?_<;>intro hc<;>(try exact ⟨⟩)
  .have hil:i<b.fills.length:=by omega
   obtain ⟨hq,hp,ht0,ht1,hm⟩:=h.fills _ (Yr hil);have hqr:=amt_rng hq;have hz:=@filt_yes (selF acc sym) b.fills i hil;have hn:=@filt_no (selF acc sym) b.fills i hil;have hin:=Yr hil;generalize hof:b.fills.getD i default=f at hq hp ht0 ht1 hm hqr hz hn hin;refine Wk (An @hof qLO1.1) @hright ?_;refine Cb ?_ ?_<;>intro hc<;>(try exact ⟨⟩)
   .have e:selF acc sym f=false:=by
     unfold selF;rw[Bool.eq_false_iff];rw[Ne,Bool.and_eq_true,hit_t];rintro ⟨h1,h2,h3⟩;rcases hc with (hc|hc)|hc
     .simp[h1]at hc
     .exact hc h2
     .exact hc h3
    refine Wk (An @hof qLO1.1) @hright ?_;refine Za (i+1,qs,vs) ⟨hil,by rw[hn e];exact hqs,by rw[hn e];exact hvs,by rw[hn e];exact hov⟩ (by dsimp only;omega) (by refine Le.of (τ:=[]) (ν:=[]) (by kernel_rfl) ?_ ?_<;>((refine Lw (An @hof qLO1.1) ?_;try exact ⟨⟩);try (first|omega|rfl)))
   .have hh:selF acc sym f=true:=by
     unfold selF;rw[Bool.and_eq_true,hit_t];exact ⟨by simpa using hc.1.1,by simpa using hc.1.2,by simpa using hc.2⟩
    obtain ⟨⟨mv,mb⟩,hM⟩:∃x,mulF f=x:=⟨_,rfl⟩
    have hno:mb=false->r=⟨acc,sym,0,0,true⟩:=fun e=>by
     rw[<-hr,posOf,posL,if_neg];rintro ⟨h1,_⟩;have:=h1 f (List.mem_filter.2 ⟨hin,hh⟩);rw[hM,e]at this;cases this
    have hnx:mb=true->(i+1<=b.fills.length/\qs++[sgnF f]=((b.fills.take (i+1)).filter (selF acc sym)).map sgnF/\vs++[mv]=((b.fills.take (i+1)).filter (selF acc sym)).map (fun f=>(mulF f).1)/\∀f,f∈(b.fills.take (i+1)).filter (selF acc sym)->(mulF f).2=true):=fun e=>by
     rw[hz hh];refine ⟨hil,?_,?_,fun g hg=>?_⟩
     .rw[List.map_append,<-hqs];rfl
     .rw[List.map_append,<-hvs];simp[hM]
     .rcases List.mem_append.1 hg with hg|hg
      .exact hov g hg
      .rw[List.mem_singleton.1 hg,hM];exact e
    have hmul:=NA.mul_c (sgnF f) f.price (mv,mb) hM
    cases hby:f.buy with
    | true =>
     have e1:sgnF f=f.qty:=by unfold sgnF;rw[hby];rfl
     rw[e1]at hmul hnx;refine Wk (An @hof qLO1.1) (An @hright @hmul) ?_;refine Cb ?_ ?_<;>intro hc<;>(try exact ⟨⟩)
     .contradiction
     .cases mb with
      | false =>
       rw[hno rfl];refine Wk (An @hof qLO1.1) (An @hright @hmul) ?_;refine Cb ?_ ?_<;>intro hc<;>(try exact ⟨⟩)
       .refine Wk (An @hof qLO1.1) (An @hright @hmul) ?_;refine Fn @results26 (An @hof qLO1.1) ?_;try exact ⟨⟩
       .contradiction
      | true =>
       refine Wk (An @hof qLO1.1) (An @hright @hmul) ?_;refine Cb ?_ ?_<;>intro hc<;>(try exact ⟨⟩)
       .contradiction
       .refine Wk (An @hof qLO1.1) (An @hright @hmul) ?_
        refine Za (i+1,qs++[f.qty],vs++[mv]) (hnx rfl) (by dsimp only;omega) (by refine Le.of (τ:=[(2,2564),(3,2884)]) (ν:=[]) (by kernel_rfl) ?_ ?_<;>((refine Lw (An @hof qLO1.1) ?_;try exact ⟨⟩);try (first|omega|rfl)))
    | false =>
     have e1:sgnF f=-f.qty:=by unfold sgnF;rw[hby];rfl
     have hb1:=Int.zero_sub f.qty;rw[e1]at hmul hnx;refine Wk (An @hb1 (An @hof qLO1.1)) (An @hright @hmul) ?_;refine Cb ?_ ?_<;>intro hc<;>(try exact ⟨⟩)
     .refine Wk (An @hb1 (An @hof qLO1.1)) (An @hright @hmul) ?_
      cases mb with
      | false =>
       rw[hno rfl];refine Wk (An @hb1 (An @hof qLO1.1)) (An @hright @hmul) ?_;refine Cb ?_ ?_<;>intro hc<;>(try exact ⟨⟩)
       .refine Wk (An @hb1 (An @hof qLO1.1)) (An @hright @hmul) ?_;refine Fn @results26 (An @hb1 (An @hof qLO1.1)) ?_;try exact ⟨⟩
       .contradiction
      | true =>
       refine Wk (An @hb1 (An @hof qLO1.1)) (An @hright @hmul) ?_;refine Cb ?_ ?_<;>intro hc<;>(try exact ⟨⟩)
       .contradiction
       .refine Wk (An @hb1 (An @hof qLO1.1)) (An @hright @hmul) ?_;refine Za (i+1,qs++[-f.qty],vs++[mv]) (hnx rfl) (by dsimp only;omega) (by refine Le.of (τ:=[(2,2756),(3,3076)]) (ν:=[]) (by kernel_rfl) ?_ ?_<;>((refine Lw (An @hb1 (An @hof qLO1.1)) ?_;try exact ⟨⟩);try (first|omega|rfl)))
     .contradiction
  .obtain rfl:i=b.fills.length:=by omega
   rw[List.take_length]at hqs hvs hov;obtain ⟨⟨q,qb⟩,hQ⟩:∃x,NA.sumS qs=x:=⟨_,rfl⟩
   obtain ⟨⟨v,vb⟩,hV⟩:∃x,NA.sumS vs=x:=⟨_,rfl⟩
   have hs1:=NA.sum53_c qs (by omega) _ hQ;have hs2:=NA.sum53_c vs (by omega) _ hV;unfold posOf posL at hr;rw[<-hqs,<-hvs,hQ,hV]at hr;by_cases hb:qb=true/\vb=true
   .rw[if_pos ⟨hov,hb⟩]at hr;obtain ⟨rfl,rfl⟩:=hb;subst hr;refine Wk qLO1.1 (An @hright (An @hs1 @hs2)) ?_;refine Cb ?_ ?_<;>intro hc<;>(try exact ⟨⟩)
    .first|contradiction|(simp at hc;done)
    .refine Wk qLO1.1 (An @hright (An @hs1 @hs2)) ?_;refine Fn @results26 qLO1.1 ?_;try exact ⟨⟩
   .rw[if_neg (fun h=>hb h.2)]at hr;subst hr;refine Wk qLO1.1 (An @hright (An @hs1 @hs2)) ?_;refine Cb ?_ ?_<;>intro hc<;>(try exact ⟨⟩)
    .refine Wk qLO1.1 (An @hright (An @hs1 @hs2)) ?_;refine Fn @results26 qLO1.1 ?_;try exact ⟨⟩
    .exact absurd hc (by simpa using hb)
theorem getD_nR (l:List Nam) (i:Nat):(l.map fun x=>[V.x (.string x.acc),V.x (.string x.sym)]).getD i [V.x (.string ⟨#[]⟩),V.x (.string ⟨#[]⟩)]=[V.x (.string (l.getD i default).acc),V.x (.string (l.getD i default).sym)]:=by
 simp only[List.getD_eq_getElem?_getD,List.getElem?_map];cases l[i]?<;>rfl
def nmF (f:Fil):Nam:=⟨f.acc,f.sym⟩
def namesF (b:Bk):List Nam:=b.fills.map nmF
noncomputable def posN (b:Bk) (n:Nam):NA.Pos:=posOf b n.acc n.sym
noncomputable def lallF (b:Bk):List NA.Pos:=(dedN (sortN (namesF b))).map (posN b)
theorem takeN {α β:Type} [Inhabited α] (f:α->β) {l:List α} {i:Nat} (h:i<l.length):(l.take (i+1)).map f=(l.take i).map f++[f (l.getD i default)]:=by
 rw[List.take_add_one,List.getElem?_eq_getElem h,List.getD_eq_getElem?_getD,List.getElem?_eq_getElem h,List.map_append];rfl
theorem padN_take (l:List Nam) (n:Nat):(nR (padN l n)).take l.length=nR l:=by
 show List.take l.length (List.map _ (l++List.replicate (n - l.length) default))=_;rw[List.map_append,List.take_left' (by simp)]
theorem padN_len (l:List Nam) (n:Nat) (h:l.length<=n):(padN l n).length=n:=by simp[padN];omega
theorem nR_app (l:List Nam) (x:Nam) (i:Nat) (h:l.length<=i):nR (l++[x])=List.take i (nR l)++[[V.x (.string x.acc),V.x (.string x.sym)]]:=by
 rw[List.take_of_length_le (by rw[List.length_map];exact h)];exact List.map_append
theorem pR_app (l:List NA.Pos) (x:NA.Pos) (i:Nat) (h:l.length<=i):NA.pR (l++[x])=List.take i (NA.pR l)++[[V.x (.string x.acc),V.x (.string x.sym),V.x (.int .i64 x.qty),V.x (.int .i64 x.value),V.x (.bool x.over)]]:=by
 rw[List.take_of_length_le (by rw[List.length_map];exact h)];exact List.map_append
def qLA1:=PLift.up (An @Z1 (An @getD_nR (An @NA.evO_f (An @List.map_append.{0,0} (An @List.map_cons.{0,0} (An @List.map_nil.{0,0} (An @List.length_append.{0} (An @List.length_cons.{0} (An @List.length_nil.{0} @List.length_map.{0,0})))))))))
theorem lall_c (b:Bk) (h:bkP b) (r:List NA.Pos) (hr:lallF b=r):ACall prog 9 [] [bkD b] (NA.psD r) []:=by
 have hright:=bkRight_c b h;have hfl:=h.fl;refine Ac func9 ?_;refine Wo (Own.mk (f:=(oF [36,40]))) qLA1.1 @hright ?_;refine Cb ?_ ?_<;>intro hc<;>(try exact ⟨⟩)
 .contradiction
 .refine Wo (Own.mk (f:=(oF [36,40]))) qLA1.1 @hright ?_
  refine AWp.loop (fun i:Nat=>mkSt [(1,.p 0 0),(3,.e (.c (.o 1 i))),(13,fsD b.fills),(14,I b.fills.length),(15,I i)] [(0,.loc (bkC b)),(1,.row 2 (nR ((b.fills.take i).map nmF)))] 2)
   (fun i=>i<=b.fills.length) (fun i=>b.fills.length - i) 0 (Nat.zero_le _) (by refine Le.of (τ:=[]) (ν:=[1]) (by kernel_rfl) ?_ ?_<;>((refine Lw qLA1.1 ?_;try exact ⟨⟩);try (first|omega|rfl))) fun i hi=>?_
  refine Wo (Own.mk (f:=(oF [36,40]))) qLA1.1 @hright ?_;refine Cb ?_ ?_<;>intro hc<;>(try exact ⟨⟩)
  .have hil:i<b.fills.length:=by omega
   have hz:=takeN nmF hil;generalize hof:b.fills.getD i default=f at hz;refine Wo (Own.mk (f:=(oF [36,40]))) (An @hof qLA1.1) @hright ?_;refine Za (i+1) (show i+1<=b.fills.length by omega) (by omega) (by refine Le.of (τ:=[(1,770)]) (ν:=[]) (by kernel_rfl) ?_ ?_<;>((refine Lw (An @hof qLA1.1) ?_;try exact ⟨⟩);try (first|omega|rfl|(rw[hz];exact nR_app _ (nmF f) i (by simp;omega)))))
  .have e:i=b.fills.length:=by omega
   subst e;have hnl:(namesF b).length=b.fills.length:=List.length_map ..;have hsort:=sortN_c (namesF b) (by omega);rw[hnl]at hsort;have hsl:(sortN (namesF b)).length=b.fills.length:=by rw[sortN_len,hnl]
   unfold lallF at hr;obtain ⟨d,hd⟩:∃d,dedN (sortN (namesF b))=d:=⟨_,rfl⟩
   have hcomp:=compact_c (sortN (namesF b)) (by omega) d hd;rw[hsl]at hcomp;have hdl:d.length<=b.fills.length:=by rw[<-hd,<-hsl];exact dedT_len _ _
   rw[hd]at hr;have htk:(b.fills.take b.fills.length).map nmF=namesF b:=by rw[List.take_length];rfl
   rw[htk];refine Wo (Own.mk (f:=(oF [36,40]))) qLA1.1 (An @hright (An @hsort @hcomp)) ?_;refine AWp.freeze [] ?_
   refine AWp.loop (fun i:Nat=>mkSt [(1,.p 0 0),(6,.e (.c (.o 1 i))),(31,nsD d),(32,I d.length),(33,I i)] [(0,.loc (bkC b)),(1,.row 5 (NA.pR ((d.take i).map (posN b))))] 2)
    (fun i=>i<=d.length) (fun i=>d.length - i) 0 (Nat.zero_le _) (by refine Le.of (τ:=[]) (ν:=[1]) (by kernel_rfl) ?_ ?_<;>((refine Lw qLA1.1 ?_;try exact ⟨⟩);try (first|omega|rfl|exact ⟨(padN_take d _).symm,by rw[padN_len _ _ hdl];exact hdl⟩))) fun i hi=>?_
   refine Wo (Own.mk (f:=(oF [36,40]))) qLA1.1 (An @hright (An @hsort @hcomp)) ?_;refine Cb ?_ ?_<;>intro hc<;>(try exact ⟨⟩)
   .have hil:i<d.length:=by omega
    have hz:=takeN (posN b) hil;have hof1:=lof_c b (d.getD i default).acc (d.getD i default).sym h (posN b (d.getD i default)) rfl;generalize hof:d.getD i default=n at hz hof1;refine Wo (Own.mk (f:=(oF [36,40]))) (An @hof qLA1.1) (An @hright (An @hsort (An @hcomp @hof1))) ?_;refine Za (i+1) (show i+1<=d.length by omega) (by omega) (by refine Le.of (τ:=[(1,834)]) (ν:=[]) (by kernel_rfl) ?_ ?_<;>((refine Lw (An @hof qLA1.1) ?_;try exact ⟨⟩);try (first|omega|rfl|(rw[hz];exact pR_app _ _ i (by simp;omega)))))
   .have e:i=d.length:=by omega
    subst e;subst hr;refine Wo (Own.mk (f:=(oF [36,40]))) qLA1.1 (An @hright (An @hsort @hcomp)) ?_;refine Fn @results9 qLA1.1 ?_;try exact ⟨⟩
    exact (List.take_of_length_le (by simp)).symm
noncomputable def listsG (g:Gat):List (List NA.Pos):=g.vens.map fun v=>lallF v.bk
noncomputable def posG (g:Gat):List NA.Pos:=if (NA.allS (listsG g)).2≠0 then [] else (NA.allS (listsG g)).1
theorem LR_app (l:List (List NA.Pos)) (x:List NA.Pos) (i:Nat) (h:l.length<=i):NA.LR (l++[x])=List.take i (NA.LR l)++[[V.s 5 (NA.pR x)]]:=by
 rw[List.take_of_length_le (by rw[List.length_map];exact h)];exact List.map_append
def qGQ1:=PLift.up (An @getD_vR (An @List.map_append.{0,0} (An @List.map_cons.{0,0} (An @List.map_nil.{0,0} (An @List.length_append.{0} (An @List.length_cons.{0} (An @List.length_nil.{0} @List.length_map.{0,0})))))))
theorem gpos_c (g:Gat) (h:gatP g) (hl:(listsG g).flatten.length<=1000) (r:List NA.Pos) (hr:posG g=r):ACall prog 11 [] [gtD g] (NA.psD r) []:=by
 have hright:=gateR_c g h;have hvl:=h.n;refine Ac func11 ?_;refine Wk qGQ1.1 @hright ?_;refine Cb ?_ ?_<;>intro hc<;>(try exact ⟨⟩)
 .contradiction
 .refine Wk qGQ1.1 @hright ?_
  refine AWp.loop (fun i:Nat=>mkSt [(3,.e (.c (.o 0 i))),(12,.e (.c (.v (.s 8 (vR g.vens))))),(13,I g.vens.length),(14,I i)] [(0,.row 1 (NA.LR ((g.vens.take i).map fun v=>lallF v.bk)))] 1)
   (fun i=>i<=g.vens.length) (fun i=>g.vens.length - i) 0 (Nat.zero_le _) (by refine Le.of (τ:=[]) (ν:=[0]) (by kernel_rfl) ?_ ?_<;>((refine Lw qGQ1.1 ?_;try exact ⟨⟩);try (first|omega|rfl))) fun i hi=>?_
  refine Wk qGQ1.1 @hright ?_;refine Cb ?_ ?_<;>intro hc<;>(try exact ⟨⟩)
  .have hil:i<g.vens.length:=by omega
   have hz:=takeN (fun v=>lallF v.bk) hil;have hb:=(h.vens _ (Yf hil)).bk;have hall:=lall_c (g.vens.getD i default).bk hb _ rfl;generalize hof:g.vens.getD i default=v at hz hb hall;refine Wk (An @hof qGQ1.1) (An @hright @hall) ?_;refine Za (i+1) (show i+1<=g.vens.length by omega) (by omega) (by refine Le.of (τ:=[(0,641)]) (ν:=[]) (by kernel_rfl) ?_ ?_<;>((refine Lw (An @hof qGQ1.1) ?_;try exact ⟨⟩);try (first|omega|rfl|(rw[hz];exact LR_app _ _ i (by simp;omega)))))
  .have e:i=g.vens.length:=by omega
   subst e;have htk:(g.vens.take g.vens.length).map (fun v=>lallF v.bk)=listsG g:=by rw[List.take_length];rfl
   rw[htk];have hll:(listsG g).length=g.vens.length:=List.length_map ..;unfold posG at hr
   have hmer:ACall prog 10 [] [.e (.c (.v (.s 1 (List.take g.vens.length (NA.LR (listsG g))))))] (NA.resA (NA.allS (listsG g))) []:=by
    rw[List.take_of_length_le (by rw[List.length_map];omega)];exact NA.all13_c (listsG g) (by omega) hl _ rfl
   generalize NA.allS (listsG g)=q at hr hmer;obtain ⟨q1,q2⟩:=q;dsimp only at hr hmer;refine Wk qGQ1.1 (An @hright @hmer) ?_;refine Cb ?_ ?_<;>intro hc<;>(try exact ⟨⟩)
   .rw[if_pos hc]at hr;subst hr;refine Wk qGQ1.1 (An @hright @hmer) ?_;refine Fn @results11 qGQ1.1 ?_;try exact ⟨⟩
   .rw[if_neg (by simpa using hc)]at hr;subst hr;refine Wk qGQ1.1 (An @hright @hmer) ?_;refine Fn @results11 qGQ1.1 ?_;try exact ⟨⟩
section
open Go.Sort
theorem sortN_pair (l:List Nam):(sortN l).Pairwise fun a b=>NA.leP (toP a) (toP b):=by
 unfold sortN;refine (List.pairwise_mergeSort (le:=fun x y=>!(ltOf cmpN) y x) (fun a b c h1 h2=>?_) (fun a b=>?_) _).imp fun {a b} h=>?_
 .rw[Bool.not_eq_true',ltN_no]at *;exact NA.Yj h1 h2
 .rw[Bool.or_eq_true,Bool.not_eq_true',Bool.not_eq_true',ltN_no,ltN_no];exact NA.leP_total _ _
 .rw[Bool.not_eq_true',ltN_no]at h;exact h
theorem leP_eq {x y:Nam} (h1:NA.leP (toP x) (toP y)) (h2:NA.leP (toP y) (toP x)):x=y:=by
 rw[<-cmpN_eq];unfold NA.leP at h1 h2;have:=NA.Yu (toP x) (toP y);unfold cmpN;omega
theorem gdN {l:List Nam} {i:Nat} (h:i<l.length):l.getD i default=l[i]:=by rw[List.getD_eq_getElem?_getD,List.getElem?_eq_getElem h];rfl
theorem dedT_spec {l:List Nam} (hs:l.Pairwise fun a b=>NA.leP (toP a) (toP b)):∀m,m<=l.length->(dedT l m).Pairwise (fun a b=>cmpN a b<0)/\∀x,x∈dedT l m↔∃j,j<m/\l.getD j default=x
 | 0,_=>⟨.nil,fun x=>by simp[dedT]⟩
 | m+1,hm=>by
  obtain ⟨h1,h2⟩:=dedT_spec hs m (by omega);have hp:=List.pairwise_iff_getElem.1 hs
  have hle:∀i j,i<=j->j<l.length->NA.leP (toP (l.getD i default)) (toP (l.getD j default)):=fun i j hij hj=>by
   rcases Nat.lt_or_ge i j with h|h
   .rw[gdN hj,gdN (Nat.lt_trans h hj)];exact hp i j (by omega) hj h
   .obtain rfl:i=j:=by omega
    exact NA.leP_refl _
  rw[dedT]
  split
  .rename_i hc;refine ⟨h1,fun x=>(h2 x).trans ⟨fun ⟨j,hj,e⟩=>⟨j,by omega,e⟩,fun ⟨j,hj,e⟩=>?_⟩⟩;by_cases hjm:j<m
   .exact ⟨j,hjm,e⟩
   .obtain rfl:j=m:=by omega
    exact ⟨j - 1,by omega,by rw[<-hc.2];exact e⟩
  .rename_i hc;refine ⟨List.pairwise_append.2 ⟨h1,List.pairwise_singleton _ _,fun x hx y hy=>?_⟩,fun x=>?_⟩
   .rw[List.mem_singleton.1 hy];obtain ⟨j,hj,rfl⟩:=(h2 x).1 hx;have a1:=hle j m (by omega) (by omega);unfold NA.leP at a1;by_cases h0:cmpN (l.getD j default) (l.getD m default)=0
    .exfalso;have e:=cmpN_eq.1 h0;refine hc ⟨by omega,?_⟩;have b1:=hle j (m - 1) (by omega) (by omega);have b2:=hle (m - 1) m (by omega) (by omega);rw[e]at b1;exact leP_eq b1 b2
    .have:cmpN (l.getD j default) (l.getD m default)<=0:=a1;omega
   .rw[List.mem_append,h2,List.mem_singleton];constructor
    .rintro (⟨j,hj,e⟩|rfl)
     .exact ⟨j,by omega,e⟩
     .exact ⟨m,by omega,rfl⟩
    .rintro ⟨j,hj,e⟩;by_cases hjm:j<m
     .exact .inl ⟨j,hjm,e⟩
     .obtain rfl:j=m:=by omega
      exact .inr e.symm
noncomputable def nmsB (b:Bk):List Nam:=dedN (sortN (namesF b))
theorem nms_str (b:Bk):(nmsB b).Pairwise fun x y=>cmpN x y<0:=(dedT_spec (sortN_pair _) _ (Nat.le_refl _)).1
theorem posN_acc (b:Bk) (n:Nam):(posN b n).acc=n.acc/\(posN b n).sym=n.sym:=by
 unfold posN posOf posL;split<;>exact ⟨rfl,rfl⟩
theorem posN_good (b:Bk) (n:Nam):NA.goodP (posN b n):=by
 unfold posN posOf posL
 split
 .exact ⟨NA.sumS_ok _,NA.sumS_ok _,fun h=>by cases h⟩
 .exact ⟨NA.okN0,NA.okN0,fun _=>⟨rfl,rfl⟩⟩
theorem lall_right (b:Bk):NA.rgtP (lallF b):=by
 rw[NA.rgtP_iff];refine ⟨fun p hp=>?_,?_⟩
 .obtain ⟨n,_,rfl⟩:=List.mem_map.1 hp;exact posN_good b n
 .unfold lallF;rw[List.pairwise_map];refine (nms_str b).imp fun {x y} h=>?_
  have e:NA.cmpP (posN b x) (posN b y)=cmpN x y:=by
   unfold cmpN NA.cmpP toP;rw[(posN_acc b x).1,(posN_acc b x).2,(posN_acc b y).1,(posN_acc b y).2]
  rw[e];exact h
theorem posG_eq (g:Gat):posG g=NA.allF (listsG g).flatten:=by
 unfold posG;rw[NA.allS_yes (fun l hl=>by obtain ⟨v,_,rfl⟩:=List.mem_map.1 hl;exact lall_right _),if_neg (fun h=>h rfl)]
def sgnS (b:Bk) (a s:ByteArray):Int:=((b.fills.filter (selF a s)).map sgnF).sum
theorem sumW_fst:∀l:List (Int×Int),(sumW l).1=(l.map (·.1)).sum/\(sumW l).2=(l.map (·.2)).sum
 | []=>⟨rfl,rfl⟩
 | x::l=>by
  rw[Yo,List.map_cons,List.map_cons,List.sum_cons,List.sum_cons,<-(sumW_fst l).1,<-(sumW_fst l).2];exact ⟨rfl,rfl⟩
theorem sum_le {α:Type} (f g:α->Int):∀l:List α,(∀x,x∈l->f x<=g x)->(l.map f).sum<=(l.map g).sum
 | [],_=>Int.le_refl _
 | x::l,h=>by
  have h1:=h x (List.mem_cons_self ..);have h2:=sum_le f g l fun y hy=>h y (List.mem_cons_of_mem _ hy);rw[List.map_cons,List.map_cons,List.sum_cons,List.sum_cons];omega
theorem sum_filter (a s:ByteArray):∀l:List Fil,((l.filter (selF a s)).map sgnF).sum=(l.map fun f=>if selF a s f=true then sgnF f else 0).sum
 | []=>rfl
 | f::l=>by
  rw[List.filter_cons,List.map_cons,List.sum_cons,<-sum_filter a s l]
  split
  .rw[List.map_cons,List.sum_cons]
  .omega
theorem sum_nn:∀l:List Int,(∀x,x∈l->0<=x)->0<=l.sum
 | [],_=>Int.le_refl _
 | x::l,h=>by
  have h1:=h x (List.mem_cons_self ..);have h2:=sum_nn l fun y hy=>h y (List.mem_cons_of_mem _ hy);rw[List.sum_cons];omega
theorem sum_neg {α:Type} (f:α->Int):∀l:List α,-(l.map f).sum=(l.map fun x=>-f x).sum
 | []=>rfl
 | x::l=>by rw[List.map_cons,List.map_cons,List.sum_cons,List.sum_cons,<-sum_neg f l];omega
theorem fil_ge {b:Bk} {a s:ByteArray} {f:Fil} (h:NO.amountB f.qty=true):(if selF a s f=true then sgnF f else 0)<=(filW b a s f).1/\-(if selF a s f=true then sgnF f else 0)<=(filW b a s f).2:=by
 have:=amt_rng h;unfold filW;rw[show (f.lv && hitW a s f.acc f.sym)=selF a s f from rfl]
 split
 .split
  .unfold sgnF addW sideW;cases f.buy<;>simp<;>omega
  .unfold sgnF sideW;cases f.buy<;>simp<;>omega
 .exact ⟨Int.le_refl _,Int.le_refl _⟩
theorem ord_ge (a s:ByteArray) (o:Ord):0<=(ordW a s o).1/\0<=(ordW a s o).2:=by
 have:=NO.leftI_le o;unfold ordW sideW
 split
 .split<;>(dsimp only;omega)
 .exact ⟨Int.le_refl _,Int.le_refl _⟩
theorem of_ge {b:Bk} {a s:ByteArray} (h:bkP b):sgnS b a s<=(ofW b a s).1/\-sgnS b a s<=(ofW b a s).2:=by
 unfold sgnS;rw[sum_filter];have k1:=sum_le _ (fun f=>(filW b a s f).1) b.fills fun f hf=>(fil_ge (b:=b) (a:=a) (s:=s) (h.fills f hf).1).1;have k2:=sum_le _ (fun f=>(filW b a s f).2) b.fills fun f hf=>(fil_ge (b:=b) (a:=a) (s:=s) (h.fills f hf).1).2;have n1:=sum_nn (b.ords.map fun o=>(ordW a s o).1) fun x hx=>by obtain ⟨o,_,rfl⟩:=List.mem_map.1 hx;exact (ord_ge a s o).1
 have n2:=sum_nn (b.ords.map fun o=>(ordW a s o).2) fun x hx=>by obtain ⟨o,_,rfl⟩:=List.mem_map.1 hx;exact (ord_ge a s o).2
 rw[sum_neg];unfold ofW addW;have e1:=sumW_fst (b.fills.map (filW b a s));have e2:=sumW_fst (b.ords.map (ordW a s));rw[List.map_map,List.map_map]at e1 e2;dsimp only;rw[e1.1,e1.2,e2.1,e2.2];simp only[Function.comp_def];omega
end
structure Mkt where
 g:Gat
 b:Bk
 log:List Exe
 heard:Nat
 now:Int
 sent:List Ord
 olds:List ByteArray
def eid (n:Nat):ByteArray:=(⟨#[101]⟩++Utf8.encode (97+((n / 26 % 26:Nat):Int)))++Utf8.encode (97+((n % 26:Nat):Int))
def execS (m:Mkt) (o:Ord) (kind qty:Int):Exe:=⟨eid m.log.length,⟨#[]⟩,o.id,o.acc,o.sym,kind,o.buy,qty,o.price,m.now⟩
noncomputable def tellM (m:Mkt) (x:Exe):Mkt×Bool:=if exB x=true/\(takeS m.b x).2=1 then ({ m with b:=(takeS m.b x).1,log:=m.log++[x] },true) else (m,false)
def noneB (s:ByteArray):Bool:=s.data.toList == (⟨#[]⟩:ByteArray).data.toList
def takeX (m:Mkt) (i:Nat):Exe :=
 if noneB (m.olds.getD i default) then execS m (m.sent.getD i default) 1 (m.sent.getD i default).qty
 else { execS m (m.sent.getD i default) 4 (m.sent.getD i default).qty with ref:=m.olds.getD i default }
noncomputable def takeM (m:Mkt) (i:Nat):Mkt :=
 if (tellM m (takeX m i)).2=true then { (tellM m (takeX m i)).1 with sent:=m.sent.eraseIdx i,olds:=m.olds.eraseIdx i } else (tellM m (takeX m i)).1
def amendX (m:Mkt) (f:Fil) (q:Int) (bust:Bool):Exe :=
 { execS m ⟨f.ord,f.acc,f.sym,f.buy,0,f.price,0,false⟩ (if bust then 7 else 8) (if f.qty - q>0 then f.qty - q else 0) with ref:=f.id }
structure Trd where
 kind:Nat
 at_:Nat
 qty:Nat
 o:Ord
instance :Inhabited Trd:=⟨⟨0,0,0,default⟩⟩
def lastS (g:Gat):Ord:=(vat g 0).sent.getD ((vat g 0).sent.length - 1) default
def sendM (m:Mkt) (r:Gat×Int×Int) (old:ByteArray):Mkt :=
 if r.2.2=0/\r.2.1=0 then { m with g:=r.1,sent:=m.sent++[lastS r.1],olds:=m.olds++[old] } else { m with g:=r.1 }
noncomputable def clientM (m:Mkt) (t:Trd):Mkt :=
 if t.kind % 10=6 then sendM m (orderG m.g 0 t.o) ⟨#[]⟩
 else if (vat m.g 0).bk.ords.length=0 then m
 else sendM m (changeG m.g 0 ((vat m.g 0).bk.ords.getD (t.at_ % (vat m.g 0).bk.ords.length) default).id t.o.id t.o.qty t.o.price) ((vat m.g 0).bk.ords.getD (t.at_ % (vat m.g 0).bk.ords.length) default).id
noncomputable def doM (m:Mkt) (t:Trd):Mkt :=
 if t.kind % 10=0\/t.kind % 10=5 then (if 0<m.sent.length then takeM m (t.at_ % m.sent.length) else m)
 else if t.kind % 10=1\/t.kind % 10=2 then
  (if 0<m.b.ords.length then
   (tellM m (if t.kind % 10=1 then execS m (m.b.ords.getD (t.at_ % m.b.ords.length) default) 2 t.qty else execS m (m.b.ords.getD (t.at_ % m.b.ords.length) default) 3 0)).1
  else m)
 else if t.kind % 10=3\/t.kind % 10=4 then
  (if 0<m.b.fills.length then (tellM m (amendX m (m.b.fills.getD (t.at_ % m.b.fills.length) default) t.qty (decide (t.kind % 10=3)))).1 else m)
 else if t.kind % 10=6\/t.kind % 10=7 then clientM m t
 else if t.kind % 10=8 then { m with now:=m.now+((t.qty % 8:Nat):Int) }
 else if m.heard<m.log.length then { m with g:=(toldG m.g 0 (m.log.getD m.heard default)).1,heard:=m.heard+1 }
 else m
def penP (b:Bk) (o:Ord) (old:ByteArray):Prop:=if noneB old=true then o.done=0 else (NO.findS b.ords old).2=true/\o.done<=(NO.findS b.ords old).1.done
structure mktP (m:Mkt) (n:Nat):Prop where
 one:m.g.vens.length=1
 gat:gatP m.g
 bad:(vat m.g 0).bk.bad=0
 fut:futP (vat m.g 0).bk (vat m.g 0).sent (m.log.drop m.heard) m.b m.sent
 heard:m.heard<=m.log.length
 log:logP ⟨[],[],[],0,0⟩ m.log m.b
 olds:m.olds.length=m.sent.length
 pen:∀i,i<m.sent.length->penP m.b (m.sent.getD i default) (m.olds.getD i default)
 lims:∀x,x∈m.g.lims->leW (worstG m.g x.acc x.sym) (x.long,x.short)
 now:0<=m.now/\m.now<=8*n
 len:m.log.length<=n/\m.sent.length<=n
theorem at0 {g:Gat} (h:g.vens.length=1):isAt g 0:=⟨by decide,by omega⟩
theorem vat_set {g:Gat} {v:Ven} (h:g.vens.length=1):vat (setV g 0 v) 0=v:=by
 obtain ⟨vens,lims,kill,now,pat⟩:=g;dsimp only at h
 match vens,h with
 | [a],_=>rfl
theorem worst_one {g:Gat} (h:g.vens.length=1) (a s:ByteArray):worstG g a s=allW (vat g 0).bk (vat g 0).sent a s:=by
 obtain ⟨vens,lims,kill,now,pat⟩:=g;dsimp only at h
 match vens,h with
 | [v],_ =>
  show sumW [addW _ _]=addW _ _;simp[sumW,addW]
theorem vbk {m:Mkt} {n:Nat} (h:mktP m n):venP (vat m.g 0) m.g.now:=h.gat.vens _ (vat_mem (at0 h.one))
theorem mkt_bk {m:Mkt} {n:Nat} (h:mktP m n):bkP m.b/\NO.rightB m.sent=true:=(fut_le ⟨#[]⟩ ⟨#[]⟩ (vbk h).bk (vbk h).sent h.fut).2
theorem mkt_worst {m:Mkt} {n:Nat} (h:mktP m n) (a s:ByteArray):leW (ofW m.b a s) (worstG m.g a s):=by
 rw[worst_one h.one];exact (fut_le a s (vbk h).bk (vbk h).sent h.fut).1
theorem pos_le {b:Bk} {a s:ByteArray} (hb:bkP b) (h:(posOf b a s).over=false):(posOf b a s).qty<=(ofW b a s).1/\-(posOf b a s).qty<=(ofW b a s).2:=by
 have e:(posOf b a s).qty=sgnS b a s:=by
  unfold posOf posL at h ⊢
  split
  .rename_i hc;have h2:=hc.2.1;show (NA.sumS _).1=_;by_cases hl:(∀x,x∈(b.fills.filter (selF a s)).map sgnF->NA.okN x)/\NA.okN ((b.fills.filter (selF a s)).map sgnF).sum
   .rw[NA.sumS_yes hl.1 hl.2];rfl
   .rw[NA.sumS_no hl]at h2;cases h2
  .rename_i hc;rw[if_neg hc]at h;cases h
 rw[e];exact of_ge hb
theorem noneB_iff {s:ByteArray}:noneB s=true↔s=⟨#[]⟩:=@eqB_iff s ⟨#[]⟩
theorem pen_grow {b c:Bk} {o:Ord} {old:ByteArray} (h:penP b o old) (hg:growP b.ords c.ords) (hc:bkP c):penP c o old:=by
 unfold penP at h ⊢
 split
 .rename_i k;rwa [if_pos k]at h
 .rename_i k;rw[if_neg k]at h;have:=grow_find hg hc.ords h.1;exact ⟨this.1,Int.le_trans h.2 this.2⟩
theorem mkt_more {m:Mkt} {n k:Nat} (h:mktP m n) (hk:n<=k):mktP m k :=
 { h with now:=⟨h.now.1,by have:=h.now.2;omega⟩,len:=⟨by have:=h.len.1;omega,by have:=h.len.2;omega⟩ }
theorem tell_keep {m:Mkt} {n:Nat} {x:Exe} {olds:List ByteArray} (h:mktP m n) (hx:hearP m.b m.sent x) (ho:olds.length=(hearO m.sent x).length) (hp:∀i,i<(hearO m.sent x).length->penP m.b ((hearO m.sent x).getD i default) (olds.getD i default)) :
 mktP { m with b:=(takeS m.b x).1,log:=m.log++[x],sent:=hearO m.sent x,olds:=olds } (n+1) where
 one:=h.one
 gat:=h.gat
 bad:=h.bad
 fut:=by
  show futP _ _ ((m.log++[x]).drop m.heard) _ _;rw[List.drop_append_of_le_length h.heard];exact fut_snoc hx h.fut
 heard:=by show m.heard<=(m.log++[x]).length;rw[List.length_append];have:=h.heard;omega
 log:=log_snoc ⟨hx.ok,hx.fresh⟩ h.log
 olds:=ho
 pen:=fun i hi=>pen_grow (hp i hi) (take_grow hx.fresh) (take_right (mkt_bk h).1 (exB_exP hx.ok))
 lims:=h.lims
 now:=⟨h.now.1,by show m.now<=_;have:=h.now.2;omega⟩
 len:=by
  have:=h.len;refine ⟨by show (m.log++[x]).length<=_;rw[List.length_append,List.length_singleton];omega,?_⟩;show (hearO m.sent x).length<=n+1;unfold hearO
  split
  .have:=List.length_eraseIdx_le m.sent (sentI m.sent x).toNat;omega
  .omega
theorem tell_other {m:Mkt} {n:Nat} {x:Exe} (h:mktP m n) (hx:¬newK x):mktP (tellM m x).1 (n+1):=by
 unfold tellM
 split
 .rename_i hc;have e:hearO m.sent x=m.sent:=by unfold hearO;rw[if_neg hx]
  have:=tell_keep (olds:=m.olds) h ⟨hc.1,hc.2,fun k=>absurd k hx,fun k=>absurd (.inr k) hx⟩ (by rw[e];exact h.olds) (by rw[e];exact h.pen);rw[e]at this;exact this
 .exact mkt_more h (by omega)
theorem take_place {m:Mkt} {n i:Nat} (h:mktP m n) (hi:i<m.sent.length):sentI m.sent (takeX m i)=i:=by
 have hp:=h.pen i hi;refine fstI_some hi (fun j hj=>?_) ?_
 .have:=distinct_ids (mkt_bk h).2 hj hi;unfold sentP;have e:(takeX m i).ord=(m.sent.getD i default).id:=by unfold takeX execS;split<;>rfl
  rw[e,show eqB (m.sent.getD j default).id (m.sent.getD i default).id=false from Bool.eq_false_iff.2 fun he=>this (eqB_iff.1 he)];rfl
 .unfold penP at hp;have ee:∀s:ByteArray,eqB s s=true:=fun s=>eqB_iff.2 rfl;unfold sentP takeX execS
  split
  .rename_i k;rw[if_pos k,List.getD_eq_getElem?_getD]at hp;simp[ee,hp]
  .simp[ee]
theorem eraseD {α:Type} [Inhabited α] {l:List α} {i j:Nat}:(l.eraseIdx i).getD j default=l.getD (if j<i then j else j+1) default:=by
 rw[List.getD_eq_getElem?_getD,List.getD_eq_getElem?_getD,List.getElem?_eraseIdx]
 split<;>rfl
theorem takeM_keep {m:Mkt} {n i:Nat} (h:mktP m n) (hi:i<m.sent.length):mktP (takeM m i) (n+1):=by
 unfold takeM tellM;by_cases hc:exB (takeX m i)=true/\(takeS m.b (takeX m i)).2=1
 .rw[if_pos hc,if_pos rfl];have hp:=h.pen i hi;have hs:=take_place h hi
  have hk:newK (takeX m i):=by
   unfold takeX execS newK;split<;>simp
  have e:hearO m.sent (takeX m i)=m.sent.eraseIdx i:=by
   unfold hearO;rw[if_pos hk,hs];rfl
  have hlen:(m.sent.eraseIdx i).length=m.sent.length - 1:=List.length_eraseIdx_of_lt hi
  have:=tell_keep (x:=takeX m i) (olds:=m.olds.eraseIdx i) h ⟨hc.1,hc.2,fun _=>by omega,fun k4=>by
   rw[hs];unfold penP at hp;unfold takeX execS at k4 ⊢
   split
   .rename_i k;rw[if_pos k]at k4;cases k4
   .rename_i k;rw[if_neg k]at hp;exact hp.2⟩ (by rw[e,hlen,List.length_eraseIdx_of_lt (by rw[h.olds];exact hi),h.olds]) (by
    rw[e];intro j hj;rw[eraseD,eraseD]
    exact h.pen _ (by split<;>omega))
  rw[e]at this;exact this
 .rw[if_neg hc,if_neg Bool.false_ne_true];exact mkt_more h (by omega)
theorem whyF_fine {x:NA.Lim} {o:NA.Ord} {wl ws:Int} (h:NA.whyF x true o wl ws=0):if o.buy=true then wl+o.qty<=x.long else ws+o.qty<=x.short:=by
 unfold NA.whyF at h;rw[if_neg (by decide)]at h;by_cases c1:x.qty<o.qty
 .rw[if_pos c1]at h;cases h
 rw[if_neg c1]at h;by_cases c2:(NA.mulS o.qty o.price).2=false\/x.value<(NA.mulS o.qty o.price).1
 .rw[if_pos c2]at h;cases h
 rw[if_neg c2]at h
 have key:∀(u v c:Int),(if (NA.addS u o.qty).2=false\/v<(NA.addS u o.qty).1 then c else 0)=0->c≠0->u+o.qty<=v:=fun u v c h hc=>by
  by_cases c3:(NA.addS u o.qty).2=false\/v<(NA.addS u o.qty).1
  .rw[if_pos c3]at h;exact absurd h hc
  .unfold NA.addS at c3
   split at c3
   .simp at c3;omega
   .simp at c3
 by_cases hb:o.buy=true
 .rw[if_pos hb]at h ⊢;exact key _ _ _ h (by decide)
 .rw[if_neg hb]at h ⊢;exact key _ _ _ h (by decide)
theorem why_lim {l:List NA.Lim} {o:Ord} {w:Int×Int} (hl:NA.rightP l) (h:whyL l o w=0) {x:NA.Lim} (hx:x∈l) (ha:x.acc=o.acc) (hs:x.sym=o.sym):if o.buy=true then w.1+o.qty<=x.long else w.2+o.qty<=x.short:=by
 obtain ⟨j,hj,rfl⟩:=List.getElem_of_mem hx;have e:l.getD j default=l[j]:=by rw[List.getD_eq_getElem?_getD,List.getElem?_eq_getElem hj];rfl
 have:=NA.find_at hl hj (a:=o.acc) (s:=o.sym) (by rw[e,ha]) (by rw[e,hs]);unfold whyL at h;rw[this,e]at h;exact whyF_fine h
theorem send_keep {m:Mkt} {n:Nat} {o p:Ord} {old:ByteArray} (h:mktP m n) (hg:gatP (setV m.g 0 { vat m.g 0 with sent:=(vat m.g 0).sent++[o] })) (hm:NO.mayB o=true) (hw:whyL m.g.lims p (worstG m.g p.acc p.sym)=0) (hp:p.acc=o.acc/\p.sym=o.sym/\p.buy=o.buy/\p.qty=o.qty - o.done) (hpen:penP m.b o old) :
 mktP { m with g:=setV m.g 0 { vat m.g 0 with sent:=(vat m.g 0).sent++[o] },sent:=m.sent++[o],olds:=m.olds++[old] } (n+1) where
 one:=by show (m.g.vens.set _ _).length=1;rw[List.length_set];exact h.one
 gat:=hg
 bad:=by rw[vat_set h.one];exact h.bad
 fut:=by
  show futP (vat (setV m.g 0 _) 0).bk (vat (setV m.g 0 _) 0).sent _ _ _;rw[vat_set h.one];exact fut_app h.fut
 heard:=h.heard
 log:=h.log
 olds:=by show (m.olds++[old]).length=(m.sent++[o]).length;rw[List.length_append,List.length_append,h.olds];rfl
 pen:=fun i hi=>by
  show penP m.b ((m.sent++[o]).getD i default) ((m.olds++[old]).getD i default);rw[List.getD_eq_getElem?_getD,List.getD_eq_getElem?_getD];have hi:i<(m.sent++[o]).length:=hi;rw[List.length_append,List.length_singleton]at hi;by_cases e:i<m.sent.length
  .rw[List.getElem?_append_left e,List.getElem?_append_left (by rw[h.olds];exact e),<-List.getD_eq_getElem?_getD,<-List.getD_eq_getElem?_getD];exact h.pen i e
  .obtain rfl:i=m.sent.length:=by omega
   have h2:(m.olds++[old])[m.sent.length]?=some old:=by rw[<-h.olds];simp
   rw[h2];simpa using hpen
 lims:=fun x hx=>by
  have h0:=h.lims x hx;rw[worst_one (show (setV m.g 0 _).vens.length=1 by show (m.g.vens.set _ _).length=1;rw[List.length_set];exact h.one),vat_set h.one];rw[worst_one h.one]at h0;unfold allW pendW at h0 ⊢;dsimp only at h0 ⊢;rw[List.map_append,sumW_app,List.map_singleton,show ∀w,sumW [w]=w from fun w=>by simp[sumW,addW]];have hmr:=may_rng hm;by_cases hh:hitW x.acc x.sym o.acc o.sym=true
  .have e1:=hit_t.1 hh;have e2:o.acc=x.acc:=NA.ba_eq e1.1;have e3:o.sym=x.sym:=NA.ba_eq e1.2;have:=why_lim h.gat.lims hw hx (by rw[hp.1,e2]) (by rw[hp.2.1,e3]);rw[hp.1,hp.2.1,e2,e3,hp.2.2.1,hp.2.2.2,worst_one h.one]at this;unfold allW pendW at this;unfold pndW;unfold pndW at h0 this;rw[if_pos hh];unfold sideW leW addW at *;cases hb:o.buy
   .rw[hb]at this;simp at this h0 ⊢;omega
   .rw[hb]at this;simp at this h0 ⊢;omega
  .have:pndW x.acc x.sym o=(0,0):=by unfold pndW;rw[if_neg hh]
   rw[this];unfold leW addW at *;dsimp only at *;omega
 now:=⟨h.now.1,by show m.now<=_;have:=h.now.2;omega⟩
 len:=by
  have:=h.len;exact ⟨by show m.log.length<=_;omega,by show (m.sent++[o]).length<=_;rw[List.length_append,List.length_singleton];omega⟩
theorem last_set {g:Gat} {o:Ord} (h:g.vens.length=1):lastS (setV g 0 { vat g 0 with sent:=(vat g 0).sent++[o] })=o:=by
 unfold lastS;rw[vat_set h];simp[List.getD_eq_getElem?_getD]
theorem Yy {m:Mkt} {n:Nat} {r:Gat×Int×Int} {old:ByteArray} (h:mktP m n) (hr:¬(r.2.2=0/\r.2.1=0)) (hg:r.1=m.g):mktP (sendM m r old) (n+1):=by
 unfold sendM;rw[if_neg hr,hg];exact mkt_more h (by omega)
theorem order_keep {m:Mkt} {n:Nat} {o:Ord} (h:mktP m n):mktP (sendM m (orderG m.g 0 o) ⟨#[]⟩) (n+1):=by
 have hr:=order_right (at_:=0) (o:=o) h.gat
 unfold orderG at hr ⊢
 split
 .exact Yy h (by simp) rfl
 .rename_i c1;rw[if_neg c1]at hr
  split
  .exact Yy h (by simp) rfl
  .rename_i c2;rw[if_neg c2]at hr
   split
   .rename_i c3;exact Yy h (fun e=>c3 e.2) rfl
   .rename_i c3;rw[if_neg c3]at hr;unfold sendM;rw[if_pos ⟨rfl,rfl⟩];dsimp only;rw[last_set h.one];obtain ⟨_,_,hw⟩:=why_st (g:=m.g) (at_:=0) (stI_rng _ _ _).1 (Classical.not_not.1 c3);exact send_keep (p:=newO o) h hr (by simp only[not_or,Bool.not_eq_false]at c1;exact c1.2) hw ⟨rfl,rfl,rfl,by show o.qty=o.qty - 0;omega⟩ (by unfold penP;rw[if_pos (noneB_iff.2 rfl)];rfl)
theorem find_ok {l:List Ord} {i:Nat} (h:NO.rightB l=true) (hi:i<l.length):noneB (l.getD i default).id=false:=by
 have:=mem_may h _ (getD_memO hi);unfold NO.mayB NO.namedB at this;simp only[Bool.and_eq_true,Bool.not_eq_true']at this;exact this.1.1.1.1.1.1.1
theorem change_keep {m:Mkt} {n:Nat} {old id:ByteArray} {q p:Int} (h:mktP m n) (ho:noneB old=false):mktP (sendM m (changeG m.g 0 old id q p) old) (n+1):=by
 have hr:=change_right (at_:=0) (old:=old) (id:=id) (q:=q) (p:=p) h.gat
 unfold changeG at hr ⊢
 split
 .exact Yy h (by simp) rfl
 .rename_i c1;rw[if_neg c1]at hr
  split
  .exact Yy h (by simp) rfl
  .rename_i c2;rw[if_neg c2]at hr
   split
   .exact Yy h (by simp) rfl
   .rename_i c3;rw[if_neg c3]at hr
    split
    .exact Yy h (by simp) rfl
    .rename_i c4;rw[if_neg c4]at hr
     split
     .rename_i c5;exact Yy h (fun e=>c5 e.2) rfl
     .rename_i c5;rw[if_neg c5]at hr;unfold sendM;rw[if_pos ⟨rfl,rfl⟩];dsimp only;rw[last_set h.one];obtain ⟨_,_,hw⟩:=why_st (g:=m.g) (at_:=0) (stI_rng _ _ _).1 (Classical.not_not.1 c5);simp only[not_or,Bool.not_eq_false]at c2;refine send_keep (p:=morO (chgO (NO.findS (vat m.g 0).bk.ords old).1 id q p)) h hr (by simpa only[Bool.not_eq_false] using c3) hw ⟨rfl,rfl,rfl,rfl⟩ ?_;unfold penP;rw[if_neg (by rw[ho];decide)];exact fut_find (vbk h).bk h.fut c2.1
theorem client_keep {m:Mkt} {n:Nat} {t:Trd} (h:mktP m n):mktP (clientM m t) (n+1):=by
 unfold clientM
 split
 .exact order_keep h
 .split
  .exact mkt_more h (by omega)
  .rename_i hl;exact change_keep h (find_ok (vbk h).bk.ords (Nat.mod_lt _ (by omega)))
theorem told_hear {g:Gat} {x:Exe} (h1:g.vens.length=1) (h:hearP (vat g 0).bk (vat g 0).sent x) :
 (toldG g 0 x).1=setV g 0 { vat g 0 with bk:=(takeS (vat g 0).bk x).1,last:=g.now,sent:=hearO (vat g 0).sent x }:=by
 have hn:¬((x.kind=1\/x.kind=4)/\sentI (vat g 0).sent x<0):=fun c=>by have:=h.place c.1;have:=c.2;omega
 unfold toldG;rw[if_neg (fun c=>c.elim (fun n=>n (at0 h1)) (fun n=>by rw[h.ok]at n;cases n)),if_neg (by rw[h.fresh];decide),if_neg hn,if_pos h.fresh];unfold hearO;by_cases k:newK x
 .rw[if_pos k,if_pos (show x.kind=1\/x.kind=4 from k)]
 .rw[if_neg k,if_neg (show ¬(x.kind=1\/x.kind=4) from k)]
theorem hear_keep {m:Mkt} {n:Nat} (h:mktP m n) (hl:m.heard<m.log.length):mktP { m with g:=(toldG m.g 0 (m.log.getD m.heard default)).1,heard:=m.heard+1 } n:=by
 have hf:=h.fut;rw[List.drop_eq_getElem_cons hl]at hf;have e:m.log[m.heard]=m.log.getD m.heard default:=by rw[List.getD_eq_getElem?_getD,List.getElem?_eq_getElem hl];rfl
 rw[e]at hf;have hr:=told_right (at_:=0) (x:=m.log.getD m.heard default) h.gat
 have ht:=told_hear h.one hf.1;have hb:=take_bad (vbk h).bk (exB_exP hf.1.ok) hf.1.fresh;have hle:=fun a s=>hear_le (vbk h).bk (vbk h).sent hf.1 a s;rw[ht]at hr ⊢
 have h1:(setV m.g 0 { vat m.g 0 with bk:=(takeS (vat m.g 0).bk (m.log.getD m.heard default)).1,last:=m.g.now,sent:=hearO (vat m.g 0).sent (m.log.getD m.heard default) }).vens.length=1:=by
  show (m.g.vens.set _ _).length=1;rw[List.length_set];exact h.one
 refine { h with one:=h1,gat:=hr,bad:=?_,fut:=?_,heard:=by show m.heard+1<=m.log.length;omega,lims:=?_ }
 .show (vat (setV m.g 0 _) 0).bk.bad=0;rw[vat_set h.one];exact hb.1
 .show futP (vat (setV m.g 0 _) 0).bk (vat (setV m.g 0 _) 0).sent (m.log.drop (m.heard+1)) m.b m.sent;rw[vat_set h.one];exact hf.2
 .intro x hx;have h0:=h.lims x hx;rw[worst_one h.one]at h0;show leW (worstG (setV m.g 0 _) x.acc x.sym) _;rw[worst_one h1,vat_set h.one];exact leW_trans (hle _ _) h0
theorem do_keep {m:Mkt} {n:Nat} {t:Trd} (h:mktP m n):mktP (doM m t) (n+1):=by
 unfold doM
 split
 .split
  .exact takeM_keep h (Nat.mod_lt _ (by omega))
  .exact mkt_more h (by omega)
 .split
  .split
   .refine tell_other h ?_;unfold newK execS;split<;>simp
   .exact mkt_more h (by omega)
  .split
   .split
    .refine tell_other h ?_;unfold newK amendX execS;dsimp only;split<;>simp
    .exact mkt_more h (by omega)
   .split
    .exact client_keep h
    .split
     .have h2:=mkt_more h (Nat.le_succ n);exact { h2 with now:=⟨by show 0<=m.now+_;have:=h.now.1;omega,by show m.now+_<=_;have:=h.now.2;omega⟩ }
     .split
      .rename_i hl;exact mkt_more (hear_keep h hl) (by omega)
      .exact mkt_more h (by omega)
abbrev xR (l:List Exe):List (List V):=l.map fun x=>[vS x.id,vS x.ref,vS x.ord,vS x.acc,vS x.sym,vI x.kind,vB x.buy,vI x.qty,vI x.price,vI x.time]
abbrev mC (m:Mkt) (i j k:Nat):List C:=[.v (.s 8 (vR m.g.vens)),.v (.s 6 (NA.lR m.g.lims)),.v (vB m.g.kill),.v (vI m.g.now),.v (vI m.g.pat),.v (NO.osV m.b.ords),.v (fsV m.b.fills),.v (ssV m.b.ids),.v (vI m.b.clock),.v (vI m.b.bad),.o i m.log.length,.v (vI m.heard),.v (vI m.now),.o j m.sent.length,.o k m.olds.length]
abbrev mkI (m:Mkt):List Blk:=[.loc (mC m 1 2 3),.row 10 (xR m.log),.row 8 (NO.oR m.sent),.row 1 (sR m.olds)]
abbrev mkO (m:Mkt):List Blk:=[.loc (mC m 4 5 6),.gone,.gone,.gone,.row 10 (xR m.log),.row 8 (NO.oR m.sent),.row 1 (sR m.olds)]
theorem mkI_0 (m:Mkt):(mkI m)[0]?=some (.loc (mC m 1 2 3)):=rfl
theorem mkI_1 (m:Mkt):(mkI m)[1]?=some (.row 10 (xR m.log)):=rfl
theorem mkI_2 (m:Mkt):(mkI m)[2]?=some (.row 8 (NO.oR m.sent)):=rfl
theorem mkI_3 (m:Mkt):(mkI m)[3]?=some (.row 1 (sR m.olds)):=rfl
theorem enc_size (n:Nat) (h:n<26):(Utf8.encode (97+(n:Int))).size=1:=by
 have:∀k:_root_.Fin 26,(Utf8.encode (97+(k.val:Int))).size=1:=by decide +kernel
 exact this ⟨n,h⟩
def qVD1:=PLift.up (An @mkI_0 (An @mkI_1 (An @mkI_2 (An @mkI_3 (An @tl85 (An @tl86 @tl88))))))
theorem xmake_c (m:Mkt) (o:Ord) (kind qty:Int) (h:m.log.length<=1000):ACall prog 68 (mkI m) [.p 0 0,NO.oD o,I kind,I qty] (xD (execS m o kind qty)) (mkI m):=by
 have hq1:(m.log.length:Int).tdiv 26=((m.log.length / 26:Nat):Int):=rfl;have hq2:((m.log.length / 26:Nat):Int).tmod 26=((m.log.length / 26 % 26:Nat):Int):=rfl;have hq3:(m.log.length:Int).tmod 26=((m.log.length % 26:Nat):Int):=rfl;have hw1:=NU.wrap_i32 (97+((m.log.length / 26 % 26:Nat):Int)) (by omega) (by omega);have hw2:=NU.wrap_i32 (97+((m.log.length % 26:Nat):Int)) (by omega) (by omega);have hs1:=enc_size (m.log.length / 26 % 26) (by omega);have hs2:=enc_size (m.log.length % 26) (by omega);have hs3:((⟨#[101]⟩:ByteArray)++Utf8.encode (97+((m.log.length / 26 % 26:Nat):Int))).size=1+(Utf8.encode (97+((m.log.length / 26 % 26:Nat):Int))).size:=ByteArray.size_append;have hs4:(⟨#[101]⟩:ByteArray).size=1:=rfl;refine Ac func68 ?_;refine Wk (An @hq1 (An @hq2 (An @hq3 (An @hw1 (An @hw2 qVD1.1))))) trivial ?_;refine Fs @results68 ?_;refine ⟨[0,1,2,3],[],[],by kernel_rfl,?_,?_⟩<;>((refine Lw (An @hq1 (An @hq2 (An @hq3 (An @hw1 (An @hw2 qVD1.1))))) ?_;try exact ⟨⟩);try (first|omega|rfl|exact ⟨rfl,rfl,rfl,rfl,rfl,rfl,rfl,rfl,rfl,rfl⟩))
theorem app_xR (l:List Exe) (x:Exe):xR (l++[x])=xR l++[[vS x.id,vS x.ref,vS x.ord,vS x.acc,vS x.sym,vI x.kind,vB x.buy,vI x.qty,vI x.price,vI x.time]]:=by simp
def qVE1:=PLift.up (An @mkI_0 (An @mkI_1 (An @mkI_2 (An @mkI_3 (An @tl85 (An @tl86 @tl88))))))
theorem tell_c (m:Mkt) (x:Exe) (hb:bkP m.b) (h:m.log.length<=1000) (r:Mkt×Bool) (hr:tellM m x=r):ACall prog 67 (mkI m) [.p 0 0,xD x] (B r.2) (mkO r.1):=by
 have hcome:=come_c m.b x hb _ rfl;unfold tellM at hr;unfold comeS at hcome;by_cases hx:exB x=true/\(takeS m.b x).2=1
 .rw[if_pos hx]at hr;rw[if_pos hx.1]at hcome;subst hr;obtain ⟨⟨b2,w⟩,hT⟩:∃y,takeS m.b x=y:=⟨_,rfl⟩
  rw[hT]at hcome ⊢;have hw:w=1:=by have:=hx.2;rw[hT]at this;exact this
  subst hw;dsimp only at hcome ⊢;refine Ac func67 ?_;refine Wk qVE1.1 @hcome ?_;refine Cb ?_ ?_<;>intro hc<;>(try exact ⟨⟩)
  .contradiction
  .refine Wk qVE1.1 @hcome ?_;refine Fs @results67 ?_;refine ⟨[0,1796,2,3],[(4,1796),(5,2),(6,3)],[],by kernel_rfl,?_,?_⟩<;>((refine Lw qVE1.1 ?_;try exact ⟨⟩);try (first|omega|rfl|exact app_xR _ _|simp))
 .rw[if_neg hx]at hr;subst hr;generalize hT:(if exB x=true then takeS m.b x else (m.b,0))=z at hcome
  have hw:z.2≠1:=by
   subst hT
   split
   .rename_i c;exact fun e=>hx ⟨c,e⟩
   .show (0:Int)≠1;decide
  obtain ⟨z1,z2⟩:=z;dsimp only at hcome hw;refine Ac func67 ?_;refine Wk qVE1.1 @hcome ?_;refine Cb ?_ ?_<;>intro hc<;>(try exact ⟨⟩)
  .refine Wk qVE1.1 @hcome ?_;refine Fs @results67 ?_;refine ⟨[0,1,2,3],[(4,1),(5,2),(6,3)],[],by kernel_rfl,?_,?_⟩<;>((refine Lw qVE1.1 ?_;try exact ⟨⟩);try (first|omega|rfl))
  .omega
end Eng
end Go.Proofs.YtgenjpingdkmgaaGreatDoor
