/- Contracts of functions that this seat's law calls. No condition. -/
import Derived.Shelf.SlSortCmp.NoneTotal
import Derived.Test.YtgenjpingdkmgaaGreatDoorG26
set_option maxRecDepth 100000
set_option linter.unusedSimpArgs false
set_option linter.unusedVariables false
open Go.Proofs.Tryz
namespace Go.Proofs.YtgenjpingdkmgaaGreatDoor
def layN_ren:Go.Shelf.Ren:=⟨fun|6=>36|14=>107|15=>108|20=>163|21=>164|22=>165|23=>166|24=>167|25=>168|26=>169|27=>170|28=>171|29=>172|46=>217|47=>218|48=>219|49=>220|50=>221|57=>259|n=>n,fun|0=>0|3=>3|4=>4|5=>5|9=>9|22=>107|24=>111|25=>115|39=>192|45=>255|46=>256|50=>187|53=>246|55=>209|66=>313|70=>317|76=>352|77=>151|n=>n,fun|n=>n⟩
theorem layN:SlLaysF0.n6 prog layN_ren where
 mixed:=by kernel_rfl
 f6:=⟨ "slices.SortFunc[[]checkroll/ledger.name,checkroll/ledger.name]",by decide,func36.trans (congrArg some (by kernel_rfl))⟩
 f14:=⟨ "slices.pdqsortCmpFunc[checkroll/ledger.name]",by decide,func107.trans (congrArg some (by kernel_rfl))⟩
 f15:=func108.trans (congrArg some (by kernel_rfl))
 f20:=⟨ "slices.insertionSortCmpFunc[checkroll/ledger.name]",by decide,func163.trans (congrArg some (by kernel_rfl))⟩
 f21:=⟨ "slices.heapSortCmpFunc[checkroll/ledger.name]",by decide,func164.trans (congrArg some (by kernel_rfl))⟩
 f22:=⟨ "slices.breakPatternsCmpFunc[checkroll/ledger.name]",by decide,func165.trans (congrArg some (by kernel_rfl))⟩
 f23:=⟨ "slices.choosePivotCmpFunc[checkroll/ledger.name]",by decide,func166.trans (congrArg some (by kernel_rfl))⟩
 f24:=⟨ "slices.reverseRangeCmpFunc[checkroll/ledger.name]",by decide,func167.trans (congrArg some (by kernel_rfl))⟩
 f25:=⟨ "slices.partialInsertionSortCmpFunc[checkroll/ledger.name]",by decide,func168.trans (congrArg some (by kernel_rfl))⟩
 f26:=⟨ "slices.partitionEqualCmpFunc[checkroll/ledger.name]",by decide,func169.trans (congrArg some (by kernel_rfl))⟩
 f27:=⟨ "slices.partitionCmpFunc[checkroll/ledger.name]",by decide,func170.trans (congrArg some (by kernel_rfl))⟩
 f28:=func171.trans (congrArg some (by kernel_rfl))
 f29:=func172.trans (congrArg some (by kernel_rfl))
 f46:=⟨ "slices.siftDownCmpFunc[checkroll/ledger.name]",by decide,func217.trans (congrArg some (by kernel_rfl))⟩
 f47:=func218.trans (congrArg some (by kernel_rfl))
 f48:=func219.trans (congrArg some (by kernel_rfl))
 f49:=⟨ "slices.medianAdjacentCmpFunc[checkroll/ledger.name]",by decide,func220.trans (congrArg some (by kernel_rfl))⟩
 f50:=⟨ "slices.medianCmpFunc[checkroll/ledger.name]",by decide,func221.trans (congrArg some (by kernel_rfl))⟩
 f57:=⟨ "slices.order2CmpFunc[checkroll/ledger.name]",by decide,func259.trans (congrArg some (by kernel_rfl))⟩
 t0:=underlying0
 a0:=isAgg0
 z0:=sizeOf0
 v0:=zeroValue0
 t3:=underlying3
 a3:=isAgg3
 z3:=sizeOf3
 v3:=zeroValue3
 t4:=underlying4
 a4:=isAgg4
 z4:=sizeOf4
 v4:=zeroValue4
 t5:=underlying5
 a5:=isAgg5
 z5:=sizeOf5
 v5:=zeroValue5
 t9:=underlying9
 a9:=isAgg9
 z9:=sizeOf9
 v9:=zeroValue9
 t22:=underlying107
 a22:=isAgg107
 z22:=sizeOf107
 v22:=zeroValue107
 t25:=underlying115
 a25:=isAgg115
 z25:=sizeOf115
 v25:=zeroValue115
 t39:=underlying192
 a39:=isAgg192
 z39:=sizeOf192
 v39:=zeroValue192
 t45:=underlying255
 a45:=isAgg255
 z45:=sizeOf255
 v45:=zeroValue255
 t46:=underlying256
 a46:=isAgg256
 z46:=sizeOf256
 v46:=zeroValue256
 t50:=underlying187
 a50:=isAgg187
 z50:=sizeOf187
 v50:=zeroValue187
 t53:=underlying246
 a53:=isAgg246
 z53:=sizeOf246
 v53:=zeroValue246
 t55:=underlying209
 a55:=isAgg209
 z55:=sizeOf209
 v55:=zeroValue209
 t66:=underlying313
 a66:=isAgg313
 z66:=sizeOf313
 v66:=zeroValue313
 t70:=underlying317
 a70:=isAgg317
 z70:=sizeOf317
 v70:=zeroValue317
 t76:=underlying352
 a76:=isAgg352
 z76:=sizeOf352
 v76:=zeroValue352
 t77:=underlying151
 a77:=isAgg151
 z77:=sizeOf151
 v77:=zeroValue151
namespace Eng
open Go.RowKit Go.Maps Go.Sort Go.Shelf
theorem ltN_iff {a b:Nam}:ltOf cmpN a b=true↔cmpN a b<0:=by unfold ltOf;simp
theorem ltN_no {a b:Nam}:ltOf cmpN a b=false↔NA.leP (toP b) (toP a):=by
 rw[<-NA.not_lt];unfold ltOf;exact decide_eq_false_iff_not
theorem swoN:SWO (ltOf cmpN) where
 irrefl x:=by rw[ltN_no];exact NA.leP_refl _
 trans x y z h1 h2:=by rw[ltN_iff]at *;exact NA.cmpP_trans h1 h2
 ntrans x y z h1 h2:=by rw[ltN_no]at *;exact NA.Ym h2 h1
theorem totN (x y:Nam) (h1:ltOf cmpN x y=false) (h2:ltOf cmpN y x=false):x=y:=by
 rw[<-cmpN_eq];rw[ltN_no]at h1 h2;unfold NA.leP at h1 h2;have:=NA.cmpP_swap (toP x) (toP y);unfold cmpN;omega
def sortN (l:List Nam):List Nam:=l.mergeSort fun x y=>!(ltOf cmpN) y x
theorem sortN_len (l:List Nam):(sortN l).length=l.length:=List.length_mergeSort ..
theorem cmpLays37 (blk off size:Nat) (w:World):CmpLays prog 37 #[] encN 2 cmpN blk off size w:=fun _ _ _ _ x y=>cl_raw x y _
theorem sortN_c (l:List Nam) (hl:l.length<=1000000):ACall prog 36 [.row 2 (nR l)] [.e (.c (.o 0 l.length)),NA.fD 37] (.t []) [.row 2 (nR (sortN l))]:=by
 refine ⟨⟨_,func36,by kernel_rfl,by kernel_rfl⟩,fun own0 w ρ vs hm ha=>?_⟩
 match vs,ha with
 | [u,u2],⟨hu,h2,_⟩ =>
  obtain ⟨rfl,_⟩:=rep_x h2;obtain ⟨m,hp,hv⟩:=hu;obtain ⟨hlen,m',hp',hb⟩:=hm.blks 0 _ rfl;rw[hp]at hp';cases hp'
  cases m with
  | nil =>
   obtain ⟨hn,a,rfl⟩:=hv;have:l=[]:=List.eq_nil_of_length_eq_zero hn;subst this;refine (AnyF.slices_SortFunc_none layN a 0 (.func (.func 37) #[] #[]) w).mono ?_;rintro e w' ⟨rfl,rfl⟩;have e:sortN []=[]:=by simp[sortN]
   rw[e]
   exact ⟨_,ρ,rfl,Sub.refl _,⟨[],rfl,trivial⟩,hm⟩
  | blk b base cap =>
   obtain ⟨rfl,hcap⟩:=hv;obtain ⟨h1,cs,T,fr,hh,hf,hsz,hcells⟩:=hb;have hblk:b<w.heap.size:=(Array.getElem?_eq_some_iff.1 hh).1;have hlb:base+l.length*2<=cs.size:=by omega
   have hin:∀t,t<l.length*2->cs[base+t]?=some ((encN (l.toArray[t / 2]!))[t % 2]!):=fun t ht=>by
    have hi:t / 2<l.length:=by omega
    have e1:(nR l)[t / 2]?=some [.x (.string l[t / 2].acc),.x (.string l[t / 2].sym)]:=by simp[hi]
    have e2:l.toArray[t / 2]! = l[t / 2]:=by simp[hi]
    rw[e2];rcases (show t % 2=0\/t % 2=1 by omega) with h|h
    .obtain ⟨x,hx,hr⟩:=hcells (t / 2) _ 0 _ e1 rfl;cases hr;rw[show base+t=base+t / 2*2+0 by omega,hx,h];rfl
    .obtain ⟨x,hx,hr⟩:=hcells (t / 2) _ 1 _ e1 rfl;cases hr;rw[show base+t=base+t / 2*2+1 by omega,hx,h];rfl
   have hnf:∀k,k<cs.size->¬(fr.1<=k/\k<fr.2):=fun k hk=>hf.1.off k hk
   have hH:HoldsK encN 2 w b base l.toArray:=fun j hj=>by
    have hj:j<l.length*2:=by simpa using hj
    rw[get_flatK _ _ _ _ (by simpa using hj)];constructor
    .simp only[World.cell?,hh,Option.isSome_none,Bool.false_eq_true,if_false];exact hin j hj
    .simp only[World.frozen?,hh];have:=hnf (base+j) (by omega);simpa using this
   have eg:∀args w,(callFunc 37 args).run prog w=.ok (.enter 37 args) w:=enters_of func37 (by kernel_rfl) rfl;have hS:=AnyQ.slices_SortFunc_total layN 2 isAgg111 sizeOf111 encN (fun _=>rfl) (fun x v hv=>by simp[encN]at hv;rcases hv with rfl|rfl<;>rfl) cmpN swoN 37 #[] b base cap l.toArray w eg (cmpLays37 b base _ w) hH hblk (by simp;omega) totN;rw[show (l.toArray.toList.mergeSort fun x y=>!(ltOf cmpN) y x)=sortN l from rfl,show l.toArray.size=l.length by simp]at hS;refine hS.mono ?_;rintro e w' ⟨rfl,n,os,rfl⟩;refine ⟨_,ρ,rfl,Sub.refl _,⟨[],rfl,trivial⟩,?_⟩;have hM:=sortN_len l;generalize sortN l=S at hM ⊢
   have hb':(sortWorldK encN 2 w b base n S.toArray os).heap[b]?=some (.cells (putCells id base (flatK encN 2 S.toArray) cs) T fr):=by
    unfold sortWorldK putRowK;rw[heap_grow_old _ _ (by simpa using hblk)];simp[putRow,mapBlock,Sort.ahead,Array.getElem?_modify,hh,onCells]
   obtain ⟨W',hW'⟩:∃W',sortWorldK encN 2 w b base n S.toArray os=W':=⟨_,rfl⟩
   have f1:W'.os=w.os:=by rw[<-hW'];rfl
   have f2:W'.tape=w.tape:=by rw[<-hW'];rfl
   have f3:W'.output=w.output:=by rw[<-hW'];rfl
   have f4:w.heap.size<=W'.heap.size:=by rw[<-hW'];unfold sortWorldK putRowK;simp
   have f5:∀k,k<w.heap.size->k≠b->W'.heap[k]?=w.heap[k]?:=fun k hk hne=>by
    rw[<-hW'];unfold sortWorldK putRowK;rw[heap_grow_old _ _ (by simpa using hk)];have:b≠k:=fun e=>hne (by rw[e]);simp[putRow,mapBlock,Sort.ahead,Array.getElem?_modify,this]
   rw[hW']at hb' ⊢;clear hW'
   have hr:RepB W' (Ow own0 ρ fun i=>[Blk.row 2 (nR l)][i]?) ρ 0 (.row 2 (nR S)):=by
    refine ⟨fun r hr=>?_,_,hp,?_,_,T,fr,hb',hf.size (by simp[putCells]),?_,fun i r j v hi hj=>?_⟩
    .obtain ⟨s,_,rfl⟩:=List.mem_map.1 hr;rfl
    .rw[List.length_map,hM];exact hcap
    .simpa[putCells] using hsz
    .obtain ⟨x,hx,hjv⟩:=rowN_one hi hj;obtain ⟨hil,hxe⟩:=List.getElem?_eq_some_iff.1 hx;have hj2:j<2:=by rcases hjv with ⟨rfl,_⟩|⟨rfl,_⟩<;>omega
     have hk:base+i*2+j<cs.size:=by omega
     have hget:(putCells id base (flatK encN 2 S.toArray) cs)[base+i*2+j]?=some ((encN x)[j]!):=by
      simp only[putCells,Array.getElem?_mapIdx,Array.getElem?_eq_getElem hk,Option.map_some];rw[if_pos ⟨by omega,by rw[size_flatK];simp;omega⟩,id,get_flatK _ _ _ _ (by simp;omega)];have q1:(base+i*2+j - base) / 2=i:=by omega
      have q2:(base+i*2+j - base) % 2=j:=by omega
      rw[q1,q2];simp[hil,hxe]
     rcases hjv with ⟨rfl,rfl⟩|⟨rfl,rfl⟩
     .exact ⟨_,hget,.x _ rfl⟩
     .exact ⟨_,hget,.x _ rfl⟩
   have:=(mem_put hm hp rfl rfl f1 f2 f3 f4 f5 hb' hr).1
   have eH:upd (fun i=>[Blk.row 2 (nR l)][i]?) 0 (some (.row 2 (nR S)))=fun i=>[Blk.row 2 (nR S)][i]?:=by
    funext i
    cases i with
    | zero=>rfl
    | succ i=>simp[upd]
   rwa [eH]at this
end Eng
end Go.Proofs.YtgenjpingdkmgaaGreatDoor
namespace Go.Proofs.YtgenjpingdkmgaaGreatDoor
namespace Eng
def selF (a s:ByteArray) (f:Fil):Bool:=f.lv && hitW a s f.acc f.sym
def sgnF (f:Fil):Int:=if f.buy then f.qty else -f.qty
noncomputable def mulF (f:Fil):Int×Bool:=NA.mulS (sgnF f) f.price
open Classical in
noncomputable def posL (a s:ByteArray) (l:List Fil):NA.Pos :=
 if (∀f,f∈l->(mulF f).2=true)/\(NA.sumS (l.map sgnF)).2=true/\(NA.sumS (l.map fun f=>(mulF f).1)).2=true then ⟨a,s,(NA.sumS (l.map sgnF)).1,(NA.sumS (l.map fun f=>(mulF f).1)).1,false⟩ else ⟨a,s,0,0,true⟩
noncomputable def posOf (b:Bk) (a s:ByteArray):NA.Pos:=posL a s (b.fills.filter (selF a s))
theorem filt_no {p:Fil->Bool} {l:List Fil} {i:Nat} (h:i<l.length) (hp:p (l.getD i default)=false):(l.take (i+1)).filter p=(l.take i).filter p:=by
 rw[List.getD_eq_getElem?_getD,List.getElem?_eq_getElem h,Option.getD_some]at hp;rw[List.take_add_one,List.getElem?_eq_getElem h,List.filter_append,Option.toList_some,List.filter_cons,hp];simp
theorem filt_yes {p:Fil->Bool} {l:List Fil} {i:Nat} (h:i<l.length) (hp:p (l.getD i default)=true):(l.take (i+1)).filter p=(l.take i).filter p++[l.getD i default]:=by
 rw[List.getD_eq_getElem?_getD,List.getElem?_eq_getElem h,Option.getD_some]at hp ⊢;rw[List.take_add_one,List.getElem?_eq_getElem h,List.filter_append,Option.toList_some,List.filter_cons,hp];simp
theorem filt_len {p:Fil->Bool} {l:List Fil} {i:Nat}:((l.take i).filter p).length<=l.length :=
 Nat.le_trans (List.length_filter_le ..) (by rw[List.length_take];omega)
def qLO1:=PLift.up (An @Z0 (An @neg_w (An @List.map_append.{0,0} (An @List.map_cons.{0,0} (An @List.map_nil.{0,0} (An @List.length_append.{0} (An @List.length_cons.{0} (An @List.length_nil.{0} @List.length_map.{0,0}))))))))
theorem lof_c (b:Bk) (acc sym:ByteArray) (h:bkP b) (r:NA.Pos) (hr:posOf b acc sym=r):ACall prog 26 [] [bkD b,StD acc,StD sym] (NA.pD r) []:=by
 have hright:=bkRight_c b h;have hfl:=h.fl;refine Ac func26 ?_;refine Wk qLO1.1 @hright ?_;refine Cb ?_ ?_<;>intro hc<;>(try exact ⟨⟩)
 .contradiction
 .refine Wk qLO1.1 @hright ?_
  refine AWp.loop (fun s:Nat×List Int×List Int=>mkSt [(1,StD acc),(2,StD sym),(6,.p 0 0),(7,.p 1 0),(8,.e (.c (.o 2 s.2.1.length))),(9,.e (.c (.o 3 s.2.2.length))),(27,fsD b.fills),(28,I b.fills.length),(29,I s.1)] [(0,.loc (NA.pC ⟨⟨#[]⟩,⟨#[]⟩,0,0,false⟩)),(1,.loc (NA.pC ⟨acc,sym,0,0,false⟩)),(2,.row 1 (NA.iR s.2.1)),(3,.row 1 (NA.iR s.2.2))] 4)
   (fun s=>s.1<=b.fills.length/\s.2.1=((b.fills.take s.1).filter (selF acc sym)).map sgnF/\s.2.2=((b.fills.take s.1).filter (selF acc sym)).map (fun f=>(mulF f).1)/\∀f,f∈(b.fills.take s.1).filter (selF acc sym)->(mulF f).2=true)
   (fun s=>b.fills.length - s.1) (0,[],[]) ⟨Nat.zero_le _,rfl,rfl,fun f hf=>by simp at hf⟩ (by refine Le.of (τ:=[(0,64),(1,320)]) (ν:=[2,3]) (by kernel_rfl) ?_ ?_<;>((refine Lw qLO1.1 ?_;try exact ⟨⟩);try (first|omega|rfl|exact ⟨rfl,rfl⟩))) fun st hst=>?_
  obtain ⟨i,qs,vs⟩:=st;obtain ⟨hi,hqs,hvs,hov⟩:=hst;dsimp only at hi hqs hvs hov ⊢;have hql:qs.length<=b.fills.length:=by rw[hqs,List.length_map];exact filt_len
  have hvl:vs.length<=b.fills.length:=by rw[hvs,List.length_map];exact filt_len
  refine Wk qLO1.1 @hright ?_;refine Cb ?_ ?_<;>intro hc<;>(try exact ⟨⟩)
  .have hil:i<b.fills.length:=by omega
   obtain ⟨hq,hp,ht0,ht1,hm⟩:=h.fills _ (getD_memF hil);have hqr:=amt_rng hq;have hz:=@filt_yes (selF acc sym) b.fills i hil;have hn:=@filt_no (selF acc sym) b.fills i hil;have hin:=getD_memF hil;generalize hof:b.fills.getD i default=f at hq hp ht0 ht1 hm hqr hz hn hin;refine Wk (An @hof qLO1.1) @hright ?_;refine Cb ?_ ?_<;>intro hc<;>(try exact ⟨⟩)
   .have e:selF acc sym f=false:=by
     unfold selF;rw[Bool.eq_false_iff];rw[Ne,Bool.and_eq_true,hit_t];rintro ⟨h1,h2,h3⟩;rcases hc with (hc|hc)|hc
     .simp[h1]at hc
     .exact hc h2
     .exact hc h3
    refine Wk (An @hof qLO1.1) @hright ?_;refine Za (i+1,qs,vs) ⟨hil,by rw[hn e];exact hqs,by rw[hn e];exact hvs,by rw[hn e];exact hov⟩ (by dsimp only;omega) (by refine Le.of (τ:=[]) (ν:=[]) (by kernel_rfl) ?_ ?_<;>((refine Lw (An @hof qLO1.1) ?_;try exact ⟨⟩);try (first|omega|rfl)))
   .have hh:selF acc sym f=true:=by
     unfold selF;rw[Bool.and_eq_true,hit_t];exact ⟨by simpa using hc.1.1,by simpa using hc.1.2,by simpa using hc.2⟩
    obtain ⟨⟨mv,mb⟩,hM⟩:∃x,mulF f=x:=⟨_,rfl⟩
    have hno:mb=false->r=⟨acc,sym,0,0,true⟩:=fun e=>by
     rw[<-hr,posOf,posL,if_neg];rintro ⟨h1,_⟩;have:=h1 f (List.mem_filter.2 ⟨hin,hh⟩);rw[hM,e]at this;cases this
    have hnx:mb=true->(i+1<=b.fills.length/\qs++[sgnF f]=((b.fills.take (i+1)).filter (selF acc sym)).map sgnF/\vs++[mv]=((b.fills.take (i+1)).filter (selF acc sym)).map (fun f=>(mulF f).1)/\∀f,f∈(b.fills.take (i+1)).filter (selF acc sym)->(mulF f).2=true):=fun e=>by
     rw[hz hh];refine ⟨hil,?_,?_,fun g hg=>?_⟩
     .rw[List.map_append,<-hqs];rfl
     .rw[List.map_append,<-hvs];simp[hM]
     .rcases List.mem_append.1 hg with hg|hg
      .exact hov g hg
      .rw[List.mem_singleton.1 hg,hM];exact e
    have hmul:=NA.mul_c (sgnF f) f.price (mv,mb) hM
    cases hby:f.buy with
    | true =>
     have e1:sgnF f=f.qty:=by unfold sgnF;rw[hby];rfl
     rw[e1]at hmul hnx;refine Wk (An @hof qLO1.1) (An @hright @hmul) ?_;refine Cb ?_ ?_<;>intro hc<;>(try exact ⟨⟩)
     .contradiction
     .cases mb with
      | false =>
       rw[hno rfl];refine Wk (An @hof qLO1.1) (An @hright @hmul) ?_;refine Cb ?_ ?_<;>intro hc<;>(try exact ⟨⟩)
       .refine Wk (An @hof qLO1.1) (An @hright @hmul) ?_;refine Fn @results26 (An @hof qLO1.1) ?_;try exact ⟨⟩
       .contradiction
      | true =>
       refine Wk (An @hof qLO1.1) (An @hright @hmul) ?_;refine Cb ?_ ?_<;>intro hc<;>(try exact ⟨⟩)
       .contradiction
       .refine Wk (An @hof qLO1.1) (An @hright @hmul) ?_
        refine Za (i+1,qs++[f.qty],vs++[mv]) (hnx rfl) (by dsimp only;omega) (by refine Le.of (τ:=[(2,2564),(3,2884)]) (ν:=[]) (by kernel_rfl) ?_ ?_<;>((refine Lw (An @hof qLO1.1) ?_;try exact ⟨⟩);try (first|omega|rfl)))
    | false =>
     have e1:sgnF f=-f.qty:=by unfold sgnF;rw[hby];rfl
     have hb1:=Int.zero_sub f.qty;rw[e1]at hmul hnx;refine Wk (An @hb1 (An @hof qLO1.1)) (An @hright @hmul) ?_;refine Cb ?_ ?_<;>intro hc<;>(try exact ⟨⟩)
     .refine Wk (An @hb1 (An @hof qLO1.1)) (An @hright @hmul) ?_
      cases mb with
      | false =>
       rw[hno rfl];refine Wk (An @hb1 (An @hof qLO1.1)) (An @hright @hmul) ?_;refine Cb ?_ ?_<;>intro hc<;>(try exact ⟨⟩)
       .refine Wk (An @hb1 (An @hof qLO1.1)) (An @hright @hmul) ?_;refine Fn @results26 (An @hb1 (An @hof qLO1.1)) ?_;try exact ⟨⟩
       .contradiction
      | true =>
       refine Wk (An @hb1 (An @hof qLO1.1)) (An @hright @hmul) ?_;refine Cb ?_ ?_<;>intro hc<;>(try exact ⟨⟩)
       .contradiction
       .refine Wk (An @hb1 (An @hof qLO1.1)) (An @hright @hmul) ?_;refine Za (i+1,qs++[-f.qty],vs++[mv]) (hnx rfl) (by dsimp only;omega) (by refine Le.of (τ:=[(2,2756),(3,3076)]) (ν:=[]) (by kernel_rfl) ?_ ?_<;>((refine Lw (An @hb1 (An @hof qLO1.1)) ?_;try exact ⟨⟩);try (first|omega|rfl)))
     .contradiction
  .obtain rfl:i=b.fills.length:=by omega
   rw[List.take_length]at hqs hvs hov;obtain ⟨⟨q,qb⟩,hQ⟩:∃x,NA.sumS qs=x:=⟨_,rfl⟩
   obtain ⟨⟨v,vb⟩,hV⟩:∃x,NA.sumS vs=x:=⟨_,rfl⟩
   have hs1:=NA.sum53_c qs (by omega) _ hQ;have hs2:=NA.sum53_c vs (by omega) _ hV;unfold posOf posL at hr;rw[<-hqs,<-hvs,hQ,hV]at hr;by_cases hb:qb=true/\vb=true
   .rw[if_pos ⟨hov,hb⟩]at hr;obtain ⟨rfl,rfl⟩:=hb;subst hr;refine Wk qLO1.1 (An @hright (An @hs1 @hs2)) ?_;refine Cb ?_ ?_<;>intro hc<;>(try exact ⟨⟩)
    .first|contradiction|(simp at hc;done)
    .refine Wk qLO1.1 (An @hright (An @hs1 @hs2)) ?_;refine Fn @results26 qLO1.1 ?_;try exact ⟨⟩
   .rw[if_neg (fun h=>hb h.2)]at hr;subst hr;refine Wk qLO1.1 (An @hright (An @hs1 @hs2)) ?_;refine Cb ?_ ?_<;>intro hc<;>(try exact ⟨⟩)
    .refine Wk qLO1.1 (An @hright (An @hs1 @hs2)) ?_;refine Fn @results26 qLO1.1 ?_;try exact ⟨⟩
    .exact absurd hc (by simpa using hb)
theorem getD_nR (l:List Nam) (i:Nat):(l.map fun x=>[V.x (.string x.acc),V.x (.string x.sym)]).getD i [V.x (.string ⟨#[]⟩),V.x (.string ⟨#[]⟩)]=[V.x (.string (l.getD i default).acc),V.x (.string (l.getD i default).sym)]:=by
 simp only[List.getD_eq_getElem?_getD,List.getElem?_map];cases l[i]?<;>rfl
def nmF (f:Fil):Nam:=⟨f.acc,f.sym⟩
def namesF (b:Bk):List Nam:=b.fills.map nmF
noncomputable def posN (b:Bk) (n:Nam):NA.Pos:=posOf b n.acc n.sym
noncomputable def lallF (b:Bk):List NA.Pos:=(dedN (sortN (namesF b))).map (posN b)
theorem takeN {α β:Type} [Inhabited α] (f:α->β) {l:List α} {i:Nat} (h:i<l.length):(l.take (i+1)).map f=(l.take i).map f++[f (l.getD i default)]:=by
 rw[List.take_add_one,List.getElem?_eq_getElem h,List.getD_eq_getElem?_getD,List.getElem?_eq_getElem h,List.map_append];rfl
theorem padN_take (l:List Nam) (n:Nat):(nR (padN l n)).take l.length=nR l:=by
 show List.take l.length (List.map _ (l++List.replicate (n - l.length) default))=_;rw[List.map_append,List.take_left' (by simp)]
theorem padN_len (l:List Nam) (n:Nat) (h:l.length<=n):(padN l n).length=n:=by simp[padN];omega
theorem nR_app (l:List Nam) (x:Nam) (i:Nat) (h:l.length<=i):nR (l++[x])=List.take i (nR l)++[[V.x (.string x.acc),V.x (.string x.sym)]]:=by
 rw[List.take_of_length_le (by rw[List.length_map];exact h)];exact List.map_append
theorem pR_app (l:List NA.Pos) (x:NA.Pos) (i:Nat) (h:l.length<=i):NA.pR (l++[x])=List.take i (NA.pR l)++[[V.x (.string x.acc),V.x (.string x.sym),V.x (.int .i64 x.qty),V.x (.int .i64 x.value),V.x (.bool x.over)]]:=by
 rw[List.take_of_length_le (by rw[List.length_map];exact h)];exact List.map_append
def qLA1:=PLift.up (An @Z0 (An @getD_nR (An @NA.evO_f (An @List.map_append.{0,0} (An @List.map_cons.{0,0} (An @List.map_nil.{0,0} (An @List.length_append.{0} (An @List.length_cons.{0} (An @List.length_nil.{0} @List.length_map.{0,0})))))))))
theorem lall_c (b:Bk) (h:bkP b) (r:List NA.Pos) (hr:lallF b=r):ACall prog 9 [] [bkD b] (NA.psD r) []:=by
 have hright:=bkRight_c b h;have hfl:=h.fl;refine Ac func9 ?_;refine Wo (Own.mk (f:=(oF [36,40]))) qLA1.1 @hright ?_;refine Cb ?_ ?_<;>intro hc<;>(try exact ⟨⟩)
 .contradiction
 .refine Wo (Own.mk (f:=(oF [36,40]))) qLA1.1 @hright ?_
  refine AWp.loop (fun i:Nat=>mkSt [(1,.p 0 0),(3,.e (.c (.o 1 i))),(13,fsD b.fills),(14,I b.fills.length),(15,I i)] [(0,.loc (bkC b)),(1,.row 2 (nR ((b.fills.take i).map nmF)))] 2)
   (fun i=>i<=b.fills.length) (fun i=>b.fills.length - i) 0 (Nat.zero_le _) (by refine Le.of (τ:=[]) (ν:=[1]) (by kernel_rfl) ?_ ?_<;>((refine Lw qLA1.1 ?_;try exact ⟨⟩);try (first|omega|rfl))) fun i hi=>?_
  refine Wo (Own.mk (f:=(oF [36,40]))) qLA1.1 @hright ?_;refine Cb ?_ ?_<;>intro hc<;>(try exact ⟨⟩)
  .have hil:i<b.fills.length:=by omega
   have hz:=takeN nmF hil;generalize hof:b.fills.getD i default=f at hz;refine Wo (Own.mk (f:=(oF [36,40]))) (An @hof qLA1.1) @hright ?_;refine Za (i+1) (show i+1<=b.fills.length by omega) (by omega) (by refine Le.of (τ:=[(1,770)]) (ν:=[]) (by kernel_rfl) ?_ ?_<;>((refine Lw (An @hof qLA1.1) ?_;try exact ⟨⟩);try (first|omega|rfl|(rw[hz];exact nR_app _ (nmF f) i (by simp;omega)))))
  .have e:i=b.fills.length:=by omega
   subst e;have hnl:(namesF b).length=b.fills.length:=List.length_map ..;have hsort:=sortN_c (namesF b) (by omega);rw[hnl]at hsort;have hsl:(sortN (namesF b)).length=b.fills.length:=by rw[sortN_len,hnl]
   unfold lallF at hr;obtain ⟨d,hd⟩:∃d,dedN (sortN (namesF b))=d:=⟨_,rfl⟩
   have hcomp:=compact_c (sortN (namesF b)) (by omega) d hd;rw[hsl]at hcomp;have hdl:d.length<=b.fills.length:=by rw[<-hd,<-hsl];exact dedT_len _ _
   rw[hd]at hr;have htk:(b.fills.take b.fills.length).map nmF=namesF b:=by rw[List.take_length];rfl
   rw[htk];refine Wo (Own.mk (f:=(oF [36,40]))) qLA1.1 (An @hright (An @hsort @hcomp)) ?_;refine AWp.freeze [] ?_
   refine AWp.loop (fun i:Nat=>mkSt [(1,.p 0 0),(6,.e (.c (.o 1 i))),(31,nsD d),(32,I d.length),(33,I i)] [(0,.loc (bkC b)),(1,.row 5 (NA.pR ((d.take i).map (posN b))))] 2)
    (fun i=>i<=d.length) (fun i=>d.length - i) 0 (Nat.zero_le _) (by refine Le.of (τ:=[]) (ν:=[1]) (by kernel_rfl) ?_ ?_<;>((refine Lw qLA1.1 ?_;try exact ⟨⟩);try (first|omega|rfl|exact ⟨(padN_take d _).symm,by rw[padN_len _ _ hdl];exact hdl⟩))) fun i hi=>?_
   refine Wo (Own.mk (f:=(oF [36,40]))) qLA1.1 (An @hright (An @hsort @hcomp)) ?_;refine Cb ?_ ?_<;>intro hc<;>(try exact ⟨⟩)
   .have hil:i<d.length:=by omega
    have hz:=takeN (posN b) hil;have hof1:=lof_c b (d.getD i default).acc (d.getD i default).sym h (posN b (d.getD i default)) rfl;generalize hof:d.getD i default=n at hz hof1;refine Wo (Own.mk (f:=(oF [36,40]))) (An @hof qLA1.1) (An @hright (An @hsort (An @hcomp @hof1))) ?_;refine Za (i+1) (show i+1<=d.length by omega) (by omega) (by refine Le.of (τ:=[(1,834)]) (ν:=[]) (by kernel_rfl) ?_ ?_<;>((refine Lw (An @hof qLA1.1) ?_;try exact ⟨⟩);try (first|omega|rfl|(rw[hz];exact pR_app _ _ i (by simp;omega)))))
   .have e:i=d.length:=by omega
    subst e;subst hr;refine Wo (Own.mk (f:=(oF [36,40]))) qLA1.1 (An @hright (An @hsort @hcomp)) ?_;refine Fn @results9 qLA1.1 ?_;try exact ⟨⟩
    exact (List.take_of_length_le (by simp)).symm
noncomputable def listsG (g:Gat):List (List NA.Pos):=g.vens.map fun v=>lallF v.bk
noncomputable def posG (g:Gat):List NA.Pos:=if (NA.allS (listsG g)).2≠0 then [] else (NA.allS (listsG g)).1
theorem LR_app (l:List (List NA.Pos)) (x:List NA.Pos) (i:Nat) (h:l.length<=i):NA.LR (l++[x])=List.take i (NA.LR l)++[[V.s 5 (NA.pR x)]]:=by
 rw[List.take_of_length_le (by rw[List.length_map];exact h)];exact List.map_append
def qGQ1:=PLift.up (An @getD_vR (An @List.map_append.{0,0} (An @List.map_cons.{0,0} (An @List.map_nil.{0,0} (An @List.length_append.{0} (An @List.length_cons.{0} (An @List.length_nil.{0} @List.length_map.{0,0})))))))
theorem gpos_c (g:Gat) (h:gatP g) (hl:(listsG g).flatten.length<=1000) (r:List NA.Pos) (hr:posG g=r):ACall prog 11 [] [gtD g] (NA.psD r) []:=by
 have hright:=gateR_c g h;have hvl:=h.n;refine Ac func11 ?_;refine Wk qGQ1.1 @hright ?_;refine Cb ?_ ?_<;>intro hc<;>(try exact ⟨⟩)
 .contradiction
 .refine Wk qGQ1.1 @hright ?_
  refine AWp.loop (fun i:Nat=>mkSt [(3,.e (.c (.o 0 i))),(12,.e (.c (.v (.s 8 (vR g.vens))))),(13,I g.vens.length),(14,I i)] [(0,.row 1 (NA.LR ((g.vens.take i).map fun v=>lallF v.bk)))] 1)
   (fun i=>i<=g.vens.length) (fun i=>g.vens.length - i) 0 (Nat.zero_le _) (by refine Le.of (τ:=[]) (ν:=[0]) (by kernel_rfl) ?_ ?_<;>((refine Lw qGQ1.1 ?_;try exact ⟨⟩);try (first|omega|rfl))) fun i hi=>?_
  refine Wk qGQ1.1 @hright ?_;refine Cb ?_ ?_<;>intro hc<;>(try exact ⟨⟩)
  .have hil:i<g.vens.length:=by omega
   have hz:=takeN (fun v=>lallF v.bk) hil;have hb:=(h.vens _ (Ya hil)).bk;have hall:=lall_c (g.vens.getD i default).bk hb _ rfl;generalize hof:g.vens.getD i default=v at hz hb hall;refine Wk (An @hof qGQ1.1) (An @hright @hall) ?_;refine Za (i+1) (show i+1<=g.vens.length by omega) (by omega) (by refine Le.of (τ:=[(0,641)]) (ν:=[]) (by kernel_rfl) ?_ ?_<;>((refine Lw (An @hof qGQ1.1) ?_;try exact ⟨⟩);try (first|omega|rfl|(rw[hz];exact LR_app _ _ i (by simp;omega)))))
  .have e:i=g.vens.length:=by omega
   subst e;have htk:(g.vens.take g.vens.length).map (fun v=>lallF v.bk)=listsG g:=by rw[List.take_length];rfl
   rw[htk];have hll:(listsG g).length=g.vens.length:=List.length_map ..;unfold posG at hr
   have hmer:ACall prog 10 [] [.e (.c (.v (.s 1 (List.take g.vens.length (NA.LR (listsG g))))))] (NA.resA (NA.allS (listsG g))) []:=by
    rw[List.take_of_length_le (by rw[List.length_map];omega)];exact NA.all13_c (listsG g) (by omega) hl _ rfl
   generalize NA.allS (listsG g)=q at hr hmer;obtain ⟨q1,q2⟩:=q;dsimp only at hr hmer;refine Wk qGQ1.1 (An @hright @hmer) ?_;refine Cb ?_ ?_<;>intro hc<;>(try exact ⟨⟩)
   .rw[if_pos hc]at hr;subst hr;refine Wk qGQ1.1 (An @hright @hmer) ?_;refine Fn @results11 qGQ1.1 ?_;try exact ⟨⟩
   .rw[if_neg (by simpa using hc)]at hr;subst hr;refine Wk qGQ1.1 (An @hright @hmer) ?_;refine Fn @results11 qGQ1.1 ?_;try exact ⟨⟩
section
open NU
def colS:ByteArray:=⟨#[58]⟩
theorem sz1:ByteArray.size ⟨#[58]⟩=1:=rfl
def qDQ1:=PLift.up (An @NA.getD_pR (An @Zh (An @sz1 (An @ByteArray.size_append @List.getD_cons_zero.{0}))))
theorem dpos_c (k:Kee) (g:Gat) (hg:gatP g) (hl:(listsG g).flatten.length<=1000) (p:NA.Pos) (hp:posG g=[p]) (ho:p.over=false) (ha:p.acc.size<=100) (hs:p.sym.size<=100) (h1:(str (showL p.qty)).size<=1000) (h2:(str (showL p.value)).size<=1000) (x:ByteArray)
 (T:ByteArray) (hT:p.acc++colS++p.sym++colS++(strN p.qty++colS++strN p.value)=T) :
 ACall prog 190 [.loc (keC k g)] [.p 0 0,ssD [x]] (StD T) [.loc (keC k g)]:=by
 have hgp:=gpos_c g hg hl [p] hp;obtain ⟨a,s,q,v,o⟩:=p;dsimp only at ho ha hs h1 h2 hT;subst ho;have hsz1:True:=trivial;have hsz2:True:=trivial;refine Ac func190 ?_;refine Wk qDQ1.1 (An @hgp @NU.Zz) ?_;refine Cb ?_ ?_<;>intro hc<;>(try exact ⟨⟩)
 .contradiction
 .refine Wk qDQ1.1 (An @hgp @NU.Zz) ?_
  refine AWp.loop (fun i:Nat=>mkSt [(0,.p 0 0),(5,.e (.c (.o 1 i))),(20,NA.psD [⟨a,s,q,v,false⟩]),(21,I 1),(22,I i)] [(0,.loc (keC k g)),(1,.row 1 (sR (List.replicate i T)))] 2)
   (fun i=>i<=1) (fun i=>1 - i) 0 (Nat.zero_le _) (by refine Le.of (τ:=[]) (ν:=[1]) (by kernel_rfl) ?_ ?_<;>((refine Lw qDQ1.1 ?_;try exact ⟨⟩);try (first|omega|rfl))) fun i hi=>?_
  refine Wk qDQ1.1 (An @hgp @NU.Zz) ?_;refine Cb ?_ ?_<;>intro hc<;>(try exact ⟨⟩)
  .obtain rfl:i=0:=by omega
   refine Wk qDQ1.1 (An @hgp @NU.Zz) ?_;refine Cb ?_ ?_<;>intro hc<;>(try exact ⟨⟩)
   .refine Wk qDQ1.1 (An @hgp @NU.Zz) ?_;refine Za 1 (Nat.le_refl _) (by omega) (by refine Le.of (τ:=[(1,1858)]) (ν:=[]) (by kernel_rfl) ?_ ?_<;>((refine Lw qDQ1.1 ?_;try exact ⟨⟩);try (first|omega|(refine ⟨?_,rfl⟩;omega)|rfl|(rw[<-hT];rfl))))
   .contradiction
  .obtain rfl:i=1:=by omega
   have hjs:joinS [T] spS=T:=by unfold joinS;rw[List.map_cons,List.map_nil,Lib.join_one]
   have hjoin:=join_c [T] spS (by simp) (by rw[hjs,<-hT];simp only[ByteArray.size_append];show a.size+1+s.size+1+((str (showL q)).size+1+(str (showL v)).size)<=1000000;omega);rw[hjs]at hjoin;refine Wk qDQ1.1 (An @hgp (An @hjoin @NU.Zz)) ?_;refine Cb ?_ ?_<;>intro hc<;>(try exact ⟨⟩)
   .contradiction
   .refine Wk qDQ1.1 (An @hgp (An @hjoin @NU.Zz)) ?_;refine Fs @results190 ?_;refine ⟨[0],[],[],by kernel_rfl,?_,?_⟩<;>((refine Lw qDQ1.1 ?_;try exact ⟨⟩);try (first|omega|rfl))
end
section
open NU
theorem mul150:NA.mulS 3 50=(150,true):=by
 unfold NA.mulS;rw[if_pos];· rfl
 .unfold NA.okN;omega
theorem posE:posN bkE2 ⟨str [97],str [115]⟩=⟨str [97],str [115],3,150,false⟩:=by
 have hf:bkE2.fills.filter (selF (str [97]) (str [115]))=[filX exE2]:=rfl;have hm:mulF (filX exE2)=(150,true):=mul150;show posL (str [97]) (str [115]) (bkE2.fills.filter (selF (str [97]) (str [115])))=_;rw[hf];unfold posL;rw[show [filX exE2].map sgnF=[3] from rfl,show [filX exE2].map (fun f=>(mulF f).1)=[(mulF (filX exE2)).1] from rfl,hm,NA.sumS_one (by unfold NA.okN;omega),NA.sumS_one (by unfold NA.okN;omega),if_pos];exact ⟨fun f hf=>by rw[List.mem_singleton.1 hf,hm],rfl,rfl⟩
theorem lall4:lallF bkE2=[⟨str [97],str [115],3,150,false⟩]:=by
 have h1:sortN (namesF bkE2)=[⟨str [97],str [115]⟩]:=List.mergeSort_singleton _;unfold lallF;rw[h1,show dedN [(⟨str [97],str [115]⟩:Nam)]=[⟨str [97],str [115]⟩] from rfl,List.map_cons,List.map_nil,posE]
theorem lists4:listsG gE4=[[⟨str [97],str [115],3,150,false⟩]]:=by
 show [lallF bkE2]=_;rw[lall4]
theorem pos4:posG gE4=[⟨str [97],str [115],3,150,false⟩]:=by
 have h:NA.rgtP [⟨str [97],str [115],3,150,false⟩]:=fun i hi=>by
  obtain rfl:i=0:=by simp at hi;omega
  exact ⟨fun h=>absurd h (Nat.lt_irrefl _),by unfold NA.okN;exact ⟨by decide,by decide⟩,by unfold NA.okN;exact ⟨by decide,by decide⟩,fun h=>by cases h⟩
 unfold posG;rw[lists4,NA.allS_one h,if_neg (fun h=>h rfl)]
theorem wj0:joinS (words8 aE0) spS=str (lnS.getD 0 []):=by
 have:words8 aE0=[str (asksL.getD 8 []),str [97],str [115],str [49,48],str [49,48],str [49,48],str [49,48,48,48]]:=by
  show [_,_,_,str (showL 10),str (showL 10),str (showL 10),str (showL 1000)]=_;rw[shw_10,shw_1000];rfl
 exact (congrArg (fun l=>joinS l spS) this).trans (by kernel_rfl)
theorem wj1:joinS (words1 aE1) spS=str (lnS.getD 1 []):=by
 have:words1 aE1=[str (asksL.getD 1 []),str [48],str [111],str [97],str [115],str [98,117,121],str [55],str [53,48]]:=by
  show [_,str (showL 0),_,_,_,_,str (showL 7),str (showL 50)]=_;rw[shw_0,shw_7,shw_50];rfl
 exact (congrArg (fun l=>joinS l spS) this).trans (by kernel_rfl)
theorem wj2:joinS (words31 aE2) spS=str (lnS.getD 2 []):=by
 have:words31 aE2=[str (asksL.getD 3 []),str [48],str (execsL.getD 1 []),str [101,49],str [45],str [111],str [97],str [115],str [98,117,121],str [55],str [53,48],str [49]]:=by
  show [_,str (showL 0),_,_,_,_,_,_,_,str (showL 7),str (showL 50),str (showL 1)]=_;rw[shw_0,shw_7,shw_50,shw_1];rfl
 exact (congrArg (fun l=>joinS l spS) this).trans (by kernel_rfl)
theorem wj3:joinS (words32 aE3) spS=str (lnS.getD 3 []):=by
 have:words32 aE3=[str (asksL.getD 3 []),str [48],str (execsL.getD 2 []),str [101,50],str [45],str [111],str [97],str [115],str [98,117,121],str [51],str [53,48],str [50]]:=by
  show [_,str (showL 0),_,_,_,_,_,_,_,str (showL 3),str (showL 50),str (showL 2)]=_;rw[shw_0,shw_3,shw_50,shw_2];rfl
 exact (congrArg (fun l=>joinS l spS) this).trans (by kernel_rfl)
theorem works_c:ACall prog 6 [] [] (B true) []:=by
 have hg0:gatP (newG 1 100):=newG_right (by omega) (by omega) (by unfold timeP;omega);have hk0:=newE_right 1 100
 have hs0:(newE 1 100).s0.length+(newE 1 100).t0.length<=1000:=by
  show (ND.put (ND.first 1 [])).length+0<=1000;rw[ND.put_len,ND.first_len];decide
 obtain ⟨k1,e1,l1⟩:=do_ok (k:=newE 1 100) pt0 (by omega) ask0;have r1:=doK_right (a:=aE0) hk0 hg0;rw[e1]at r1;obtain ⟨k2,e2,l2⟩:=do_ok (k:=k1) pt1 (by omega) ask1;have r2:=doK_right (a:=aE1) r1.1 r1.2;rw[e2]at r2;obtain ⟨k3,e3,l3⟩:=do_ok (k:=k2) pt2 (by omega) ask2;have r3:=doK_right (a:=aE2) r2.1 r2.2;rw[e3]at r3;obtain ⟨k4,e4,l4⟩:=do_ok (k:=k3) pt3 (by omega) ask3;have r4:=doK_right (a:=aE3) r3.1 r3.2;rw[e4]at r4;dsimp only at r1 r2 r3 r4;let ke:Nat->Kee:=fun i=>[newE 1 100,k1,k2,k3,k4,k4,k4].getD i k4
 let ga:Nat->Gat:=fun i=>[newG 1 100,gE1,gE2,gE3,gE4,gE4,gE4].getD i gE4
 let T:Nat->ByteArray:=fun i=>[⟨#[111,107]⟩,⟨#[108,101,116]⟩,⟨(Lib.decDigits 1).toArray⟩,⟨(Lib.decDigits 1).toArray⟩,str [97,58,115,58,51,58,49,53,48],str [55,32,48]].getD i default
 have hrun:=play_run script (by decide) (by decide) lnS ln_script ke ga T rfl rfl (fun i hi=>by
  have:i<6:=hi
  match i,this with
  | 0,_=>exact ⟨_,_,rfl,by decide⟩
  | 1,_=>exact ⟨_,_,rfl,by decide⟩
  | 2,_=>exact ⟨_,_,rfl,by decide⟩
  | 3,_=>exact ⟨_,_,rfl,by decide⟩
  | 4,_=>exact ⟨_,_,rfl,by decide⟩
  | 5,_=>exact ⟨_,_,rfl,by decide⟩) (fun i hi=>by
  have:i<6:=hi
  match i,this with
  | 0,_ =>
   rw[wd0_eq];have hsh:=tshow_c aE0 (words8 aE0) (words8_c aE0) (Nat.le_of_ble_eq_true rfl) (by rw[wj0];decide) pt0.1;rw[wj0]at hsh;have hpa:=tparse_c (lnS.getD 0 []) (by decide) wd0 wd0_eq 8 pl8 (by decide) aE0 (as0 ▸ asked8_c wd0 (by decide) (by decide)) hsh
   exact dask8_c (newE 1 100) (newG 1 100) hk0 hg0 (wd0.map str) (by decide) (lnS.getD 0 []) (by decide) (by kernel_rfl) aE0 (by decide) hpa _ e1 rfl
  | 1,_ =>
   rw[wd1_eq];have hsh:=tshow_c aE1 (words1 aE1) (words1_c aE1) (Nat.le_of_ble_eq_true rfl) (by rw[wj1];decide) pt1.1;rw[wj1]at hsh;have hpa:=tparse_c (lnS.getD 1 []) (by decide) wd1 wd1_eq 1 pl1 (by decide) aE1 (as1 ▸ asked1_c wd1 (by decide) (by decide)) hsh
   exact dask1_c k1 gE1 r1.1 r1.2 (wd1.map str) (by decide) (lnS.getD 1 []) (by decide) (by kernel_rfl) aE1 (by decide) hpa _ e2 rfl rfl
  | 2,_ =>
   rw[wd2_eq];have hsh:=tshow_c aE2 (words31 aE2) (words31_c aE2) (Nat.le_of_ble_eq_true rfl) (by rw[wj2];decide) pt2.1;rw[wj2]at hsh;have hpa:=tparse_c (lnS.getD 2 []) (by decide) wd2 wd2_eq 3 pl3 (by decide) aE2 (as2 ▸ asked3_c wd2 (by decide) (by decide) ⟨#[]⟩ (by decide)) hsh
   exact dask3_c k2 gE2 r2.1 r2.2 (wd2.map str) (by decide) (lnS.getD 2 []) (by decide) (by kernel_rfl) aE2 (by decide) hpa _ e3 rfl 1 (by decide) rfl
  | 3,_ =>
   rw[wd3_eq];have hsh:=tshow_c aE3 (words32 aE3) (words32_c aE3) (Nat.le_of_ble_eq_true rfl) (by rw[wj3];decide) pt3.1;rw[wj3]at hsh;have hpa:=tparse_c (lnS.getD 3 []) (by decide) wd3 wd3_eq 3 (by decide) (by decide) aE3 (as3 ▸ asked3_c wd3 (by decide) (by decide) ⟨#[]⟩ (by decide)) hsh
   exact dask3_c k3 gE3 r3.1 r3.2 (wd3.map str) (by decide) (lnS.getD 3 []) (by decide) (by kernel_rfl) aE3 (by decide) hpa _ e4 rfl 1 (by decide) rfl
  | 4,_ =>
   rw[wd4_eq]
   exact dpos_c k4 gE4 r4.2 (by rw[lists4];decide) _ pos4 rfl (by decide) (by decide) (by rw[shw_3];decide) (by rw[shw_150];decide) _ _ (by show (str [97]++colS++str [115]++colS++(str (showL 3)++colS++str (showL 150)):ByteArray)=str [97,58,115,58,51,58,49,53,48];rw[shw_3,shw_150];rfl)
  | 5,_ =>
   rw[wd5_eq];have h:=dworst_c k4 gE4 r4.2 (str [119,111,114,115,116]) (str [97]) (str [115]) (by decide) (by decide) (by rw[ev5,shw_7];decide) (by rw[ev5,shw_0];decide);rw[ev5]at h;replace h:ACall prog 189 [.loc (keC k4 gE4)] [.p 0 0,ssD [str [119,111,114,115,116],str [97],str [115]]] (StD (str (showL 7)++(⟨#[32]⟩:ByteArray)++str (showL 0))) [.loc (keC k4 gE4)]:=h;rw[shw_7,shw_0]at h
   exact h)
 refine works_of ((List.range 6).map T) (Play_run _ _ _ hrun) rfl rfl rfl
end
theorem topShut_c (l:List Ask) (o:Ord) (ls:List NA.Lim):ACall prog 4 [] [asksD l,NO.oD o,NA.lsD ls] (B true) []:=shut_run works_c l o ls
end Eng
end Go.Proofs.YtgenjpingdkmgaaGreatDoor
