/- Contracts of functions that this seat's law calls. No condition. -/
import Derived.Shelf.Sort.Plain
import Derived.Shelf.Slices.In.SortNone
import Derived.Shelf.SlIter.Sorted
import Derived.Test.YtgenjpingdkmgaaGreatDoorG13
set_option maxRecDepth 100000
set_option linter.unusedSimpArgs false
set_option linter.unusedVariables false
open Go.Proofs.Tryz
namespace Go.Proofs.YtgenjpingdkmgaaGreatDoor
namespace Eng
section
variable {own0 mt:Nat->Prop} {w0 w w':World} {ρ:Nat->Option Pl} {H:Nat->Option Blk}
theorem setBlk_self {w:World} {b:Nat} {o:Obj} (h:w.heap[b]?=some o):setBlk w b o=w:=by
 unfold setBlk
 have:w.heap.setIfInBounds b o=w.heap:=by
  apply Array.ext_getElem?;intro i;by_cases hi:b=i
  .subst hi;have hb:b<w.heap.size:=(Array.getElem?_eq_some_iff.1 h).1;rw[Array.getElem?_setIfInBounds_self_of_lt hb,h]
  .rw[Array.getElem?_setIfInBounds_ne hi]
 rw[this]
theorem mem_put (hm:Mem own0 mt w0 ρ H w) {i b base c:Nat} (hp:ρ i=some (.blk b base c)) (hl:live (H i)=true) {blk:Blk} (hl':live (some blk)=true) {vs:Array Value} {T:TypeId} {fr:Nat×Nat}
 (os:w'.os=w.os) (tape:w'.tape=w.tape) (output:w'.output=w.output) (size:w.heap.size<=w'.heap.size) (hk:∀k,k<w.heap.size->k≠b->w'.heap[k]?=w.heap[k]?)
 (hb:w'.heap[b]?=some (.cells vs T fr)) (hr:RepB w' (Ow own0 ρ H) ρ i blk):Mem own0 mt w0 ρ (upd H i (some blk)) w'/\(∀x,Ow own0 ρ (upd H i (some blk)) x↔Ow own0 ρ H x):=by
 have hbl:b<w.heap.size:=(hm.fresh _ _ _ _ hp).2.1;obtain ⟨o,ho⟩:∃o,w.heap[b]?=some o:=⟨w.heap[b],Array.getElem?_eq_getElem hbl⟩
 have hbl':b<w'.heap.size:=Nat.lt_of_lt_of_le hbl size
 have s:KeepM (fun _=>False) w (setBlk w' b o):=⟨os,tape,output,by simpa using size,fun k hkl _=>by
  by_cases e:k=b
  .subst e;rw[Yh hbl',ho]
  .rw[Yy e];exact hk k hkl e⟩
 have hm1:=(Step.grow hm s).mem;have e:setBlk (setBlk w' b o) b (.cells vs T fr)=w':=by rw[setBlk_setBlk,setBlk_self hb]
 have:=hm1.write hp hl hl' vs T fr (by rw[e];exact hr);rw[e]at this;exact this
end
end Eng
end Go.Proofs.YtgenjpingdkmgaaGreatDoor
namespace Go.Proofs.YtgenjpingdkmgaaGreatDoor
def layS_ren:Go.Shelf.Ren:=⟨fun|190=>106|125=>108|258=>162|128=>171|129=>172|302=>209|303=>210|304=>211|305=>212|306=>213|307=>214|308=>160|309=>215|310=>216|333=>256|329=>218|330=>219|334=>257|335=>258|336=>109|344=>293|n=>n,fun|31=>56|9=>9|3=>3|46=>192|0=>0|51=>246|53=>209|4=>4|183=>256|182=>255|131=>187|5=>5|218=>313|222=>317|228=>352|229=>151|n=>n,fun|n=>n⟩
theorem layS:Go.Proofs.Lays.n190 prog layS_ren where
 mixed:=by kernel_rfl
 f125:=func108.trans (congrArg some (by kernel_rfl))
 f128:=func171.trans (congrArg some (by kernel_rfl))
 f129:=func172.trans (congrArg some (by kernel_rfl))
 f190:=func106.trans (congrArg some (by kernel_rfl))
 f258:=func162.trans (congrArg some (by kernel_rfl))
 f302:=func209.trans (congrArg some (by kernel_rfl))
 f303:=func210.trans (congrArg some (by kernel_rfl))
 f304:=func211.trans (congrArg some (by kernel_rfl))
 f305:=func212.trans (congrArg some (by kernel_rfl))
 f306:=func213.trans (congrArg some (by kernel_rfl))
 f307:=func214.trans (congrArg some (by kernel_rfl))
 f308:=func160.trans (congrArg some (by kernel_rfl))
 f309:=func215.trans (congrArg some (by kernel_rfl))
 f310:=func216.trans (congrArg some (by kernel_rfl))
 f329:=func218.trans (congrArg some (by kernel_rfl))
 f330:=func219.trans (congrArg some (by kernel_rfl))
 f333:=func256.trans (congrArg some (by kernel_rfl))
 f334:=func257.trans (congrArg some (by kernel_rfl))
 f335:=func258.trans (congrArg some (by kernel_rfl))
 f336:=func109.trans (congrArg some (by kernel_rfl))
 f344:=func293.trans (congrArg some (by kernel_rfl))
 t0:=underlying0
 a0:=isAgg0
 z0:=sizeOf0
 v0:=zeroValue0
 t3:=underlying3
 a3:=isAgg3
 z3:=sizeOf3
 v3:=zeroValue3
 t4:=underlying4
 a4:=isAgg4
 z4:=sizeOf4
 v4:=zeroValue4
 t5:=underlying5
 a5:=isAgg5
 z5:=sizeOf5
 v5:=zeroValue5
 t9:=underlying9
 a9:=isAgg9
 z9:=sizeOf9
 v9:=zeroValue9
 t31:=underlying56
 a31:=isAgg56
 z31:=sizeOf56
 v31:=zeroValue56
 t46:=underlying192
 a46:=isAgg192
 z46:=sizeOf192
 v46:=zeroValue192
 t51:=underlying246
 a51:=isAgg246
 z51:=sizeOf246
 v51:=zeroValue246
 t53:=underlying209
 a53:=isAgg209
 z53:=sizeOf209
 v53:=zeroValue209
 t131:=underlying187
 a131:=isAgg187
 z131:=sizeOf187
 v131:=zeroValue187
 t182:=underlying255
 a182:=isAgg255
 z182:=sizeOf255
 v182:=zeroValue255
 t183:=underlying256
 a183:=isAgg256
 z183:=sizeOf256
 v183:=zeroValue256
 t218:=underlying313
 a218:=isAgg313
 z218:=sizeOf313
 v218:=zeroValue313
 t222:=underlying317
 a222:=isAgg317
 z222:=sizeOf317
 v222:=zeroValue317
 t228:=underlying352
 a228:=isAgg352
 z228:=sizeOf352
 v228:=zeroValue352
 t229:=underlying151
 a229:=isAgg151
 z229:=sizeOf151
 v229:=zeroValue151
def Z3:Go.Shelf.Ren:=⟨fun|6=>101|8=>158|9=>106|11=>208|13=>108|12=>162|23=>171|24=>172|14=>209|15=>210|16=>211|17=>212|18=>213|19=>214|20=>160|21=>215|22=>216|25=>256|26=>218|27=>219|28=>257|29=>258|30=>109|31=>293|n=>n,fun|26=>9|28=>184|24=>56|0=>0|3=>3|37=>192|48=>246|50=>209|4=>4|40=>256|39=>255|45=>187|5=>5|9=>9|51=>313|55=>317|57=>352|58=>151|33=>132|n=>n,fun|n=>n⟩
theorem layZ:Go.Proofs.SlLaysZ.n6 prog Z3 where
 mixed:=by kernel_rfl
 f6:=⟨ "slices.Sorted[string]",by decide,func101.trans (congrArg some (by kernel_rfl))⟩
 f8:=⟨ "slices.Collect[string]",by decide,func158.trans (congrArg some (by kernel_rfl))⟩
 f11:=⟨ "slices.AppendSeq[[]string,string]",by decide,func208.trans (congrArg some (by kernel_rfl))⟩
 t0:=underlying0
 a0:=isAgg0
 z0:=sizeOf0
 v0:=zeroValue0
 t24:=underlying56
 a24:=isAgg56
 z24:=sizeOf56
 v24:=zeroValue56
 t26:=underlying9
 a26:=isAgg9
 z26:=sizeOf9
 v26:=zeroValue9
 t28:=underlying184
 a28:=isAgg184
 z28:=sizeOf184
 v28:=zeroValue184
 i26:=by kernel_rfl
namespace Eng
open Go.RowKit Go.Maps Go.Sort Go.Shelf
variable {P:Program}
theorem acall_raw2 {f:FuncId} {args:List D} {val:D} (hp:Plain P f) (h:∀(w:World) (vs:List Value) (ow:Nat->Prop) (ρ:Nat->Option Pl),Glob (fun _=>False) w->All2 (RepD w ow ρ) args vs ->
 Calls P f vs.toArray w fun e w'=>∃u,e=.returned u/\Below w.heap.size w w'/\∀ow' ρ',(∀b,ow' b->b<w.heap.size)->RepD w' ow' ρ' val u):ACall P f [] args val [] :=
 ⟨hp,fun own0 w ρ vs hm ha=>(h w vs _ _ (fun x hx=>⟨(hm.glob x hx).1,fun e=>e,(hm.glob x hx).2.2⟩) ha).mono fun e w' ⟨u,he,hb,hd⟩ =>
  ⟨u,ρ,he,.refl _,hd _ _ (fun b hb=>by
   rcases hb with h|⟨i,_,_,_,h⟩
   .exact hm.own0 b h
   .simp[live]at h),(Step.grow hm ⟨hb.os,hb.tape,hb.output,hb.size,fun b h _=>hb.block b h⟩).mem⟩⟩
def sortS (l:List ByteArray):List ByteArray:=((l.map fun s=>s.data.toList).mergeSort fun x y=>decide (x<=y)).map fun d=>⟨d.toArray⟩
theorem Yw (l:List ByteArray):(sortS l).length=l.length:=by rw[sortS,List.length_map,List.length_mergeSort,List.length_map]
theorem evO_nilF (En:Nat->D):evO En (.const .nilFunc)=.e (.c (.v (.x .nilFunc))):=rfl
theorem values_c (l:List ByteArray):ACall prog 102 [] [ssD l] (.e (.c (.v (.f 159 [[ssV l]])))) []:=by
 refine Ac func102 ?_;refine Wk @evO_nilF trivial ?_;refine Fn @results102 @evO_nilF ?_;try exact ⟨⟩
set_option maxHeartbeats 2000000 in
theorem vals1_in (n:Nat) (hn:1<=n) (l pb po n₀ len cap:Nat) (a:Option Addr) (z:Nat->List UInt8) (hbig:len<=140737488355328) (w0:World) (J:List (List UInt8)->World->Prop) (hJ:∀s W,J s W->Below n₀ w0 W)
 (hY:∀pre x W,J pre W->pre.length<len->YieldAt Fence.wide (n - 1) prog l #[encStr x] W fun e W'=>e=.returned (.bool true)/\J (pre++[x]) W'/\KeepsWalks W W')
 (W:World) (hp:W.cell? ⟨pb,po,none⟩=some (.slice a len cap)) (hc:0<len->∃b off,a=some ⟨b,off,none⟩/\b<n₀/\∀j,j<len->w0.cell? ⟨b,off+j,none⟩=some (encStr (z j))) (h0:J [] W) :
 CallsIn Fence.wide n prog 159 #[.func (.yield l) #[] #[],.pointer (some ⟨pb,po,none⟩)] W fun e W'=>(∃v,e=.returned v)/\J ((List.range len).map z) W':=by
 refine callsIn_of_wp func159 rfl trivial ?_ rfl;simp only[ntmps159,List.size_toArray,List.length_cons,List.length_nil,Nat.reduceAdd,Nat.reduceSub,Array.replicate_succ,Array.replicate_zero,List.push_toArray,List.append_toArray,List.nil_append,List.cons_append]
 gi_wp2
 gi_loopw [7] (fun i wr=>∃k:Nat,k<=len/\i=.int .i64 k/\J ((List.range k).map z) wr) (fun i _=>len - (intOf i).toNat)
 case atStart=>exact ⟨0,Nat.zero_le _,rfl,h0⟩
 case round =>
  obtain ⟨k,hk,rfl,hJs⟩:=hrel;by_cases hlt:k<len
  .obtain ⟨b,off,rfl,hbn,hcell⟩:=hc (by omega);have hcx:wr.cell? ⟨b,off+k,none⟩=some (encStr (z k)):=((hJ _ _ hJs).cell (p:=⟨b,off+k,none⟩) hbn).trans (hcell k hlt);obtain ⟨fn,tmps,assign,body,hy,hR⟩:=hY _ (z k) wr hJs (by simpa using hlt)
   gi_wp2
   refine hR.mono ?_;rintro e W3 ⟨rfl,hJ3,hk3⟩
   gi_wp2
   go_roundw
   case rel =>
    have hw:wrap64 ((k:Int)+1)=k+1:=by unfold wrap64;omega
    refine ⟨k+1,by omega,by simp[hw],?_⟩;rw[List.range_succ,List.map_append];exact hJ3
   case measure =>
    have hw:wrap64 ((k:Int)+1)=k+1:=by unfold wrap64;omega
    simp[intOf,hw];omega
  .obtain rfl:k=len:=by omega
   gi_wp2
   go_end0
   exact ⟨⟨_,rfl⟩,hJs⟩
set_option maxHeartbeats 2000000 in
theorem appSeq_in (n:Nat) (hn:2<=n) (pb po len cap:Nat) (a:Option Addr) (ss:List (List UInt8)) (hlen:ss.length=len) (hN:len<=maxLen) (hNb:len*16<=140737488355328) (w:World) (hp:w.cell? ⟨pb,po,none⟩=some (.slice a len cap))
 (hc:0<len->∃b off,a=some ⟨b,off,none⟩/\b<w.heap.size/\∀j,j<len->w.cell? ⟨b,off+j,none⟩=some (encStr (ss.getD j []))) :
 CallsIn Fence.wide n prog 208 #[.slice none 0 0,.func (.func 159) #[] #[.pointer (some ⟨pb,po,none⟩)]] w fun e w'=>∃v:Value,e=.returned v/\w'.ownsRow w.heap.size (Z3.t 26) 1 v ss.length (ss.map encStr)/\(v=.slice none 0 0↔ss=[])/\Below w.heap.size w w':=by
 have hpl:pb<w.heap.size:=World.block_lt_of_cell? _ _ hp;have L:SlLaysZ.n11 prog Z3:={ layZ with }
 have h1:1<=n:=by omega
 have eg:∀args w,(callFunc 159 args).run prog w=.ok (.enter 159 args) w:=enters_of func159 (by kernel_rfl) rfl;have mixed:=L.mixed;have t0:=L.t0;have a0:=L.a0;have z0:=L.z0;have v0:=L.v0;have t24:=L.t24;have a24:=L.a24;have z24:=L.z24;have v24:=L.v24;have t26:=L.t26;have a26:=L.a26;have z26:=L.z26;have v26:=L.v26;have t28:=L.t28;have a28:=L.a28;have z28:=L.z28;have v28:=L.v28;have hne:Z3.t 24≠Z3.t 26:=fun e=>by have h:=L.t24;rw[e,L.t26]at h;cases h
 have u0:=run_underlying L.t0;have u24:=run_underlying L.t24;have u26:=run_underlying L.t26;have u28:=run_underlying L.t28;obtain ⟨_,_,FG⟩:=L.f11;refine callsIn_of_wp_marks FG rfl trivial ?_ rfl;simp only[SlBodyZ.n11_ntmps Z3,List.size_toArray,List.length_cons,List.length_nil,Nat.reduceAdd,Nat.reduceSub,Array.replicate_succ,Array.replicate_zero,List.push_toArray,List.append_toArray,List.nil_append,List.cons_append]
 gi_wp2
 refine wpIn_rangeFunc ?_;intro fn hfn;rw[show (Fence.wide).round=none from rfl];obtain ⟨W0,hW0⟩:∃W0,w.alloc (.cells #[.slice none 0 0] (Z3.t 24))=W0:=⟨_,rfl⟩
 have hs0:W0.heap.size=w.heap.size+1:=by rw[<-hW0];simp
 have hv0:W0.heap[w.heap.size]?=some (.cells #[.slice none 0 0] (Z3.t 24) (0,0)):=by rw[<-hW0];exact World.alloc_heap_new w _
 have hb0:Below w.heap.size w W0:=by rw[<-hW0];exact (Below.refl _ w).alloc (Nat.le_refl _) _
 rw[hW0];obtain ⟨W1,hW1⟩:∃W1,(W0.alloc (.deferred (some []))).alloc (.loop (AnyZ.apRec Z3 fn (.func (.func 159) #[] #[.pointer (some ⟨pb,po,none⟩)]) w.heap.size W0.heap.size .ready none))=W1:=⟨_,rfl⟩
 have hold:∀k,k<W0.heap.size->W1.heap[k]?=W0.heap[k]?:=fun k hk=>by
  rw[<-hW1];exact (Below.heap_alloc _ _ k (by simp;omega)).trans (Below.heap_alloc _ _ k hk)
 have hb1:Below w.heap.size w W1:=by rw[<-hW1];exact (hb0.alloc hb0.size _).alloc (by have:=hb0.size;simp;omega) _
 have hs1:W1.heap.size=W0.heap.size+2:=by rw[<-hW1];simp
 have hM:AnyZ.ApAt Z3 w fn (.func (.func 159) #[] #[.pointer (some ⟨pb,po,none⟩)]) w.heap.size (W0.heap.size+1) W0.heap.size [] W1 :=
  ⟨⟨_,(hold w.heap.size (by omega)).trans hv0,⟨rfl,.inl ⟨rfl,rfl⟩⟩,by simp⟩,
   by rw[<-hW1];have:=World.alloc_heap_new (W0.alloc (.deferred (some []))) (.loop (AnyZ.apRec Z3 fn (.func (.func 159) #[] #[.pointer (some ⟨pb,po,none⟩)]) w.heap.size W0.heap.size .ready none));rwa [World.size_alloc]at this,
   by rw[<-hW1];exact (Below.heap_alloc _ _ _ (by simp)).trans (World.alloc_heap_new W0 _),hb1⟩
 refine ⟨W0.heap.size+1,[{ target:=.collected W0.heap.size,args:=#[] }],W1,{ target:=.fn (.func 159) #[.pointer (some ⟨pb,po,none⟩)],args:=#[.func (.yield (W0.heap.size+1)) #[] #[]] },W1,159,
  #[.func (.yield (W0.heap.size+1)) #[] #[]]++#[.pointer (some ⟨pb,po,none⟩)],W1,?_,?_,?_,?_,fun _=>h1,?_⟩
 .rw[<-hW1];exact run_enterLoop_outer _ _ _ _ _
 .simp[resolve,go_sem]
 .intro f' hf';trivial
 .simp[invoke,go_sem,eg]
 .have hss:(List.range len).map (fun j=>ss.getD j [])=ss:=by
   apply List.ext_getElem
   .simp[hlen]
   .intro i h1 h2;simp[List.getD_eq_getElem?_getD,h2]
  refine (vals1_in (n - 1) (by omega) (W0.heap.size+1) pb po w.heap.size len cap a (fun j=>ss.getD j []) (by omega) w (AnyZ.ApAt Z3 w fn (.func (.func 159) #[] #[.pointer (some ⟨pb,po,none⟩)]) w.heap.size (W0.heap.size+1) W0.heap.size) (fun s W h=>h.below)
   (fun pre x W hJ hl=>AnyZ.apYield { L with } Fence.wide (n - 1 - 1) w fn hfn _ w.heap.size (W0.heap.size+1) W0.heap.size (by omega) (by omega) (by omega) (Nat.le_refl _) (by omega) len hN hNb pre x W hJ hl) W1 ((hb1.cell (p:=⟨pb,po,none⟩) hpl).trans hp) hc hM).mono ?_
  rintro e W2 ⟨⟨v0,rfl⟩,h2⟩;rw[hss]at h2;obtain ⟨v,hv,hrow,hnil⟩:=h2.box;have hend:=run_endLoop (P:=prog) h2.L (by simp[AnyZ.apRec]);obtain ⟨W3,hW3⟩:∃W3,W2.putObj (W0.heap.size+1) (.loop { AnyZ.apRec Z3 fn (.func (.func 159) #[] #[.pointer (some ⟨pb,po,none⟩)]) w.heap.size W0.heap.size .ready none with state:=.exhausted })=W3:=⟨_,rfl⟩
  rw[hW3]at hend;have hg3:W2.grownBy W3 (some (W0.heap.size+1)):=by rw[<-hW3];exact grownBy_putObj_a _ _ _
  have hv3:W3.heap[w.heap.size]?=some (.cells #[v] (Z3.t 24) (0,0)):=by rw[<-hW3];exact (World.putObj_heap_other (by omega)).trans hv
  have hK3:W3.heap[W0.heap.size]?=some (.deferred (some [])):=by rw[<-hW3];exact (World.putObj_heap_other (by omega)).trans h2.K
  have hrow3:=hrow.kept hg3 (ownsRow_ne_a hrow h2.L (fun cur e=>by first|cases e|exact hne (Obj.cells.inj e).2.1));have hb3:Below w.heap.size w W3:=h2.below.grown hg3 h2.below.size (fun k e=>by cases e;omega);obtain ⟨hc3,hf3⟩:=cell_of_box_a hv3;clear hW3;refine ⟨none,W3,hend,?_⟩
  gi_wp2
  rw[<-hs0];refine ⟨by simp,.inl ⟨_,_,rfl,run_takeDeferred hK3,?_⟩⟩;exact ⟨_,results_tmp rfl _ _ _,v,rfl,hrow3.kept (grownBy_putObj_a _ _ _) (ownsRow_ne_a hrow3 hK3 (fun cur e=>by first|cases e|exact hne (Obj.cells.inj e).2.1)),hnil,hb3.grown (grownBy_putObj_a _ _ _) hb3.size (fun k e=>by cases e;omega)⟩
set_option maxHeartbeats 1000000 in
theorem coll_in (n:Nat) (hn:3<=n) (pb po len cap:Nat) (a:Option Addr) (ss:List (List UInt8)) (hlen:ss.length=len) (hN:len<=maxLen) (hNb:len*16<=140737488355328) (w:World) (hp:w.cell? ⟨pb,po,none⟩=some (.slice a len cap))
 (hc:0<len->∃b off,a=some ⟨b,off,none⟩/\b<w.heap.size/\∀j,j<len->w.cell? ⟨b,off+j,none⟩=some (encStr (ss.getD j []))) :
 CallsIn Fence.wide n prog 158 #[.func (.func 159) #[] #[.pointer (some ⟨pb,po,none⟩)]] w fun e w'=>∃v:Value,e=.returned v/\w'.ownsRow w.heap.size (Z3.t 26) 1 v ss.length (ss.map encStr)/\(v=.slice none 0 0↔ss=[])/\Below w.heap.size w w':=by
 have h1:1<=n:=by omega
 have hg:Fence.wide.fn 208:=trivial;refine callsIn_of_wp func158 rfl trivial ?_ rfl;simp only[ntmps158,List.size_toArray,List.length_cons,List.length_nil,Nat.reduceAdd,Nat.reduceSub,Array.replicate_succ,Array.replicate_zero,List.push_toArray,List.append_toArray,List.nil_append,List.cons_append]
 gi_wp2_with (gi_at_call 208;refine (appSeq_in (n - 1) (by omega) pb po len cap a ss hlen hN hNb _ hp hc).mono ?_;rintro e w' ⟨v,rfl,hrow,hnil,hb⟩)
 go_ret
 exact ⟨v,rfl,hrow,hnil,hb⟩
set_option maxHeartbeats 1000000 in
theorem sorted_in (n:Nat) (hn:4<=n) (pb po len cap:Nat) (a:Option Addr) (ss:List (List UInt8)) (hlen:ss.length=len) (hN:len<=maxLen) (hNb:len*16<=140737488355328) (w:World) (hp:w.cell? ⟨pb,po,none⟩=some (.slice a len cap))
 (hc:0<len->∃b off,a=some ⟨b,off,none⟩/\b<w.heap.size/\∀j,j<len->w.cell? ⟨b,off+j,none⟩=some (encStr (ss.getD j []))) :
 CallsIn Fence.wide n prog 101 #[.func (.func 159) #[] #[.pointer (some ⟨pb,po,none⟩)]] w fun e w'=>∃v:Value,e=.returned v/\w'.ownsRow w.heap.size (Z3.t 26) 1 v ss.length ((ss.mergeSort (fun x y=>decide (x<=y))).map encStr)/\Below w.heap.size w w':=by
 subst hlen;have h1:1<=n:=by omega
 have hg:Fence.wide.fn 158:=trivial;have hg':Fence.wide.fn 106:=trivial;refine callsIn_of_wp func101 rfl trivial ?_ rfl;simp only[ntmps101,List.size_toArray,List.length_cons,List.length_nil,Nat.reduceAdd,Nat.reduceSub,Array.replicate_succ,Array.replicate_zero,List.push_toArray,List.append_toArray,List.nil_append,List.cons_append]
 gi_wp2_with (gi_at_call 158;refine (coll_in (n - 1) (by omega) pb po ss.length cap a ss rfl hN hNb _ hp hc).mono ?_;rintro e W ⟨v,rfl,hrow,hnil,hb⟩)
 rcases hrow.2 with ⟨rfl,hz⟩|⟨gb,cap,cur,rfl,hbase,hgb,r1,r2,r3,r4⟩
 .have hss:ss=[]:=List.eq_nil_of_length_eq_zero hz;subst hss
  gi_wp2_with (gi_at_call 106;refine (callsIn_wide.2 (Any.slices_Sort_string_none layS none 0 W)).mono ?_;rintro e w' ⟨rfl,rfl⟩)
  go_ret
  exact ⟨.slice none 0 0,rfl,by simpa using hrow,hb⟩
 .have hH:Holds encStr W gb 0 ss.toArray:=holds_of_block hgb (by simpa using r4);have hgl:gb<W.heap.size:=(Array.getElem?_eq_some_iff.1 hgb).1;have hsz:ss.length<4611686018427387904:=by omega
  gi_wp2_with (gi_at_call 106;refine (callsIn_wide.2 (Any.slices_Sort_string layS gb 0 cap ss W hH hgl hsz)).mono ?_;rintro e w' ⟨rfl,nn,os,rfl⟩)
  go_ret
  exact ⟨_,rfl,ownsRow_sorted (ts:=ss.mergeSort fun x y=>decide (x<=y)) (List.length_mergeSort ..) hbase hgb r1 r2 r3,hb.grown (grownBy_sorted _) hb.size (fun j hj=>by cases hj;exact hbase)⟩
theorem sorted_c (l:List ByteArray) (hl:l.length<=1000000):ACall prog 101 [] [.e (.c (.v (.f 159 [[ssV l]])))] (ssD (sortS l)) []:=by
 refine acall_raw2 ⟨_,func101,by kernel_rfl,by kernel_rfl⟩ fun w vs ow ρ hG ha=>?_
 match vs,ha with
 | [f],⟨hf,_⟩ =>
  obtain ⟨ad,sl,rfl,hcell,hsl⟩:∃(ad:Addr) (sl:Value),f=.func (.func 159) #[] #[.pointer (some ad)]/\w.cell? ad=some sl/\RepV w ow (ssV l) sl:=by
   cases (show RepV w ow (.f 159 [[ssV l]]) f from hf) with
   | f _ _ ads g hn hc hr =>
    match ads,hn with
    | [ad],_=>exact ⟨ad,g 0 0,rfl,(hc 0 ad _ 0 _ rfl rfl rfl).1,hr 0 _ 0 _ rfl rfl⟩
  obtain ⟨pb,po,ps⟩:=ad
  have hps:ps=none:=by
   unfold World.cell? at hcell
   split at hcell
   .cases ps with
    | none=>rfl
    | some _=>simp at hcell
   .cases hcell
  subst hps
  obtain ⟨a,cap,rfl,hz,hcl⟩:∃(a:Option Addr) (cap:Nat),sl=.slice a l.length cap/\(a=none->l=[])/\(∀ad,a=some ad->∀j (h:j<l.length),w.cell? (ad.add j)=some (.string (l.getD j default))):=by
   cases hsl with
   | s _ _ a n c g hn hk hz hcap hc hr =>
    have hn:n=l.length:=by simpa using hn
    subst hn;refine ⟨a,c,rfl,fun h=>by simpa using hz h,fun ad had j hj=>?_⟩;have e1:(l.map fun s=>[V.x (.string s)])[j]?=some [V.x (.string (l.getD j default))]:=by simp[hj]
    have h1:=(hc ad had j _ 0 _ e1 rfl).1;have h2:=hr j _ 0 _ e1 rfl
    have e2:g j 0=.string (l.getD j default):=by
     generalize g j 0=u at h2;cases h2;rfl
    rw[<-e2];simpa using h1
  have hcc:0<l.length->∃b off,a=some ⟨b,off,none⟩/\b<w.heap.size/\∀j,j<l.length->w.cell? ⟨b,off+j,none⟩=some (encStr ((l.map fun s=>s.data.toList).getD j [])):=by
   intro h0
   cases a with
   | none=>have:=hz rfl;subst this;simp at h0
   | some ad =>
    obtain ⟨b,off,sp⟩:=ad;have h00:=hcl _ rfl 0 h0
    have hsp:sp=none:=by
     unfold World.cell? Addr.add at h00;simp only[if_true]at h00
     split at h00
     .cases sp with
      | none=>rfl
      | some _=>simp at h00
     .cases h00
    subst hsp;refine ⟨b,off,rfl,?_,fun j hj=>?_⟩
    .have:=World.block_lt_of_cell? _ _ h00
     rwa [Yg]at this
    .have:=hcl _ rfl j hj
     have e:(⟨b,off,none⟩:Addr).add j=⟨b,off+j,none⟩:=by
      unfold Addr.add
      split
      .rename_i h;subst h;rfl
      .rfl
     rw[e]at this;rw[this];simp[encStr,hj]
  refine ((callsIn_wide (n:=4)).1 (sorted_in 4 (by omega) pb po l.length cap a (l.map fun s=>s.data.toList) (by simp) (by unfold maxLen;omega) (by omega) w hcell hcc)).mono ?_;rintro e w' ⟨v,rfl,hrow,hb⟩;refine ⟨v,rfl,hb,fun ow' ρ' how=>?_⟩;show RepV w' ow' (ssV (sortS l)) v;rcases hrow.2 with ⟨rfl,hzz⟩|⟨g,cap',cur,rfl,hbase,hgb,r1,r2,r3,r4⟩
  .have:l=[]:=by simpa using hzz
   subst this;exact .s 1 _ none 0 0 (fun _ _=>undef) (by simp[sortS]) (by simp[sortS]) (fun _=>by simp[sortS]) (Nat.le_refl _) (by simp) (by simp[sortS])
  .have hlen2:(sortS l).length=l.length:=Yw l;refine .s 1 _ _ _ _ (fun i _=>.string ((sortS l).getD i default)) (by simp[hlen2]) (fun i r hi=>?_) (fun h=>by cases h) r1 (fun ad had i r j v hi hj=>?_) (fun i r j v hi hj=>?_)
   .obtain ⟨s,_,rfl⟩:=List.mem_map.1 (List.mem_of_getElem? hi);rfl
   .cases had;rw[List.getElem?_map]at hi;obtain ⟨s,hs,rfl⟩:=Option.map_eq_some_iff.1 hi
    have hj0:j=0:=by
     cases j with
     | zero=>rfl
     | succ j=>simp at hj
    subst hj0;obtain ⟨hil,his⟩:=List.getElem?_eq_some_iff.1 hs;have hcell:=hrow.cellAt i (by rw[List.length_map];omega);refine ⟨?_,fun ho=>?_⟩
    .have ea:(⟨g,0,none⟩:Addr).add (i*1+0)=⟨g,i,none⟩:=by
      unfold Addr.add
      split
      .rename_i h;have:i=0:=by omega
       subst this;rfl
      .simp
     rw[ea,hcell];unfold sortS at hs ⊢;rw[List.getElem?_map]at hs;obtain ⟨d,hd,rfl⟩:=Option.map_eq_some_iff.1 hs;rw[List.getElem?_map,hd,List.getD_eq_getElem?_getD,List.getElem?_map,hd];rfl
    .have:g<w.heap.size:=how _ ho;omega
   .rw[List.getElem?_map]at hi;obtain ⟨s,hs,rfl⟩:=Option.map_eq_some_iff.1 hi
    have hj0:j=0:=by
     cases j with
     | zero=>rfl
     | succ j=>simp at hj
    subst hj0;cases hj;have:(sortS l).getD i default=s:=by rw[List.getD_eq_getElem?_getD,hs];rfl
    rw[this];exact .x _ rfl
end Eng
end Go.Proofs.YtgenjpingdkmgaaGreatDoor
namespace Go.Proofs.YtgenjpingdkmgaaGreatDoor
namespace Eng
namespace NO
theorem placeN_congr {id:ByteArray}:∀ {l l':List Ord},l.map Ord.id=l'.map Ord.id->placeN id l=placeN id l'
 | [],[],_=>rfl
 | [],_::_,h=>by simp at h
 | _::_,[],h=>by simp at h
 | o::l,o'::l',h=>by
  simp only[List.map_cons,List.cons.injEq]at h;have e:eqN o id=eqN o' id:=by simp only[eqN,h.1]
  rw[placeN,placeN,e,placeN_congr h.2]
theorem placeI_congr {id:ByteArray} {l l':List Ord} (h:l.map Ord.id=l'.map Ord.id):placeI l id=placeI l' id:=by
 unfold placeI;rw[placeN_congr h]
theorem map_set_id (l:List Ord) (i:Nat) (a:Ord) (h:a.id=(l.getD i default).id):(l.set i a).map Ord.id=l.map Ord.id:=by
 rw[List.map_set];apply List.ext_getElem?;intro j;rw[List.getElem?_set]
 split
 .rename_i e;subst e
  split
  .rename_i hl;simp only[List.length_map]at hl;simp[hl,h,List.getD_eq_getElem?_getD]
  .rename_i hl;rw[List.getElem?_eq_none (by omega)]
 .rfl
theorem getD_id {l l':List Ord} (h:l.map Ord.id=l'.map Ord.id) (i:Nat):(l.getD i default).id=(l'.getD i default).id:=by
 have h1:(l.map Ord.id)[i]?=(l'.map Ord.id)[i]?:=by rw[h]
 simp only[List.getElem?_map]at h1;simp only[List.getD_eq_getElem?_getD];cases e1:l[i]?<;>cases e2:l'[i]?<;>simp_all
theorem right_set {l:List Ord} {i:Nat} {a:Ord} (h:rightB l=true) (hid:a.id=(l.getD i default).id) (hm:mayB a=true):rightB (l.set i a)=true:=by
 rw[Zy]at h ⊢;have e:=map_set_id l i a hid;refine ⟨by simpa using h.1,fun j hj=>?_⟩;simp only[List.length_set]at hj;have hj':=h.2 j hj;constructor
 .by_cases c:i=j
  .subst c;rw[show (l.set i a).getD i default=a by simp[List.getD_eq_getElem?_getD,hj]];exact hm
  .rw[show (l.set i a).getD j default=l.getD j default by simp[List.getD_eq_getElem?_getD,List.getElem?_set_ne c]];exact hj'.1
 .rw[getD_id e,placeI_congr (l:=(l.set i a).take j) (l':=l.take j) (by rw[List.map_take,List.map_take,e])];exact hj'.2
theorem right_app {l:List Ord} {a:Ord} (h:rightB l=true) (hl:l.length<64) (hm:mayB a=true) (hp:placeI l a.id<0):rightB (l++[a])=true:=by
 rw[Zy]at h ⊢;refine ⟨by simp;omega,fun j hj=>?_⟩;simp only[List.length_append,List.length_cons,List.length_nil]at hj;by_cases c:j=l.length
 .subst c;rw[show (l++[a]).getD l.length default=a by simp[List.getD_eq_getElem?_getD]];refine ⟨hm,?_⟩;rw[List.take_left' rfl];exact hp
 .rw[show (l++[a]).getD j default=l.getD j default by simp[List.getD_eq_getElem?_getD,List.getElem?_append_left (show j<l.length by omega)],List.take_append_of_le_length (by omega)];exact h.2 j (by omega)
theorem openI_spec {l:List Ord} {id:ByteArray} (h:¬openI l id<0):placeI l id=openI l id/\0<=placeI l id/\(l.getD (placeI l id).toNat default).op=true:=by
 unfold openI at h ⊢
 split
 .rename_i c;rw[if_pos c]at h;omega
 .rename_i c;rw[if_neg c]at h;refine ⟨rfl,by omega,?_⟩;cases e:(l.getD (placeI l id).toNat default).op
  .exact absurd ⟨by omega,e⟩ c
  .rfl
theorem placeI_none {l:List Ord} {id:ByteArray} (h:placeI l id<0):placeN id l=none:=by
 unfold placeI at h
 split at h
 .omega
 .assumption
end NO
structure bkP (b:Bk):Prop where
 ords:NO.rightB b.ords=true
 fl:b.fills.length<=256
 il:b.ids.length<=256
 clock:0<=b.clock/\b.clock<=4611686018427387904
 bad:0<=b.bad/\b.bad<=6
 ids:b.ids.Nodup
 fills:∀f,f∈b.fills->NO.amountB f.qty=true/\NO.amountB f.price=true/\0<=f.time/\f.time<=b.clock/\f.id∈b.ids
 names:(b.fills.map (·.id)).Nodup
structure exP (x:Exe):Prop where
 qty:NO.amountB x.qty=true
 price:NO.amountB x.price=true
 time:0<=x.time/\x.time<=4611686018427387904
def filX (x:Exe):Fil:=⟨x.id,x.ord,x.acc,x.sym,x.buy,x.qty,x.price,x.time,true⟩
noncomputable def bfillS (b:Bk) (x:Exe):Bk×Int :=
 if (NO.fillS b.ords x.ord x.qty x.price).2=0 then ({ b with ords:=(NO.fillS b.ords x.ord x.qty x.price).1,fills:=b.fills++[filX x] },0)
 else if (NO.fillS b.ords x.ord x.qty x.price).2=1 then (b,4)
 else if (NO.fillS b.ords x.ord x.qty x.price).2=9 then (b,5) else (b,2)
noncomputable def breplS (b:Bk) (x:Exe):Bk×Int :=
 if (NO.changeS b.ords x.ref x.ord x.qty x.price).2=0 then ({ b with ords:=(NO.changeS b.ords x.ref x.ord x.qty x.price).1 },0)
 else if (NO.changeS b.ords x.ref x.ord x.qty x.price).2=1 then (b,4) else (b,2)
def difN (f:Fil) (x:Exe):Prop:=f.ord.data.toList≠x.ord.data.toList\/f.acc.data.toList≠x.acc.data.toList\/f.sym.data.toList≠x.sym.data.toList\/f.buy≠x.buy
instance (f:Fil) (x:Exe):Decidable (difN f x):=by unfold difN;infer_instance
noncomputable def bamendS (b:Bk) (x:Exe):Bk×Int :=
 if refI b.fills x<0 then (b,6)
 else if (b.fills.getD (refI b.fills x).toNat default).lv=false\/10<x.time - (b.fills.getD (refI b.fills x).toNat default).time then (b,6)
 else if difN (b.fills.getD (refI b.fills x).toNat default) x then (b,3)
 else if x.kind=7 then ({ b with fills:=b.fills.set (refI b.fills x).toNat { (b.fills.getD (refI b.fills x).toNat default) with lv:=false } },0)
 else if (b.fills.getD (refI b.fills x).toNat default).qty<x.qty then (b,4)
 else if (NO.findS b.ords (b.fills.getD (refI b.fills x).toNat default).ord).2=false\/fairB (NO.findS b.ords (b.fills.getD (refI b.fills x).toNat default).ord).1 (b.fills.getD (refI b.fills x).toNat default).buy x.price=false then (b,5)
 else ({ b with fills:=b.fills.set (refI b.fills x).toNat { (b.fills.getD (refI b.fills x).toNat default) with qty:=x.qty,price:=x.price } },0)
def nwX (x:Exe):Ord:=⟨x.ord,x.acc,x.sym,x.buy,x.qty,x.price,0,false⟩
def difO (o:Ord) (x:Exe):Prop:=o.acc.data.toList≠x.acc.data.toList\/o.sym.data.toList≠x.sym.data.toList\/o.buy≠x.buy
instance (o:Ord) (x:Exe):Decidable (difO o x):=by unfold difO;infer_instance
noncomputable def applyS (b:Bk) (x:Exe):Bk×Int :=
 if x.time<b.clock then (b,1)
 else if x.kind=1 then (if (NO.newS b.ords (nwX x)).2=0 then ({ b with ords:=(NO.newS b.ords (nwX x)).1 },0) else (b,2))
 else if x.kind=7\/x.kind=8 then bamendS b x
 else if (NO.findS b.ords (if x.kind=4 then x.ref else x.ord)).2=false\/(NO.findS b.ords (if x.kind=4 then x.ref else x.ord)).1.op=false then (b,2)
 else if difO (NO.findS b.ords (if x.kind=4 then x.ref else x.ord)).1 x then (b,3)
 else if x.kind=2 then bfillS b x
 else if x.kind=4 then breplS b x
 else if (NO.closeS b.ords x.ord).2=0 then ({ b with ords:=(NO.closeS b.ords x.ord).1 },0) else (b,2)
noncomputable def takeS (b:Bk) (x:Exe):Bk×Int :=
 if b.bad≠0\/256<=b.ids.length then (b,4)
 else if b.ids.any (eqB x.id)=true then (b,2)
 else if (applyS { b with ids:=b.ids++[x.id] } x).2=0 then ({ (applyS { b with ids:=b.ids++[x.id] } x).1 with clock:=x.time },1)
 else ({ (applyS { b with ids:=b.ids++[x.id] } x).1 with bad:=(applyS { b with ids:=b.ids++[x.id] } x).2 },3)
theorem newS_right {l:List Ord} {o:Ord} (h:(NO.newS l o).2=0):NO.rightB (NO.newS l o).1=true:=by
 unfold NO.newS at h ⊢
 split
 .rename_i hc;rw[if_pos hc]at h;exact absurd h (by simp)
 .rename_i hc;rw[if_neg hc]at h
  split
  .rename_i hc2;rw[if_pos hc2]at h;exact absurd h (by simp)
  .rename_i hc2;rw[if_neg hc2]at h
   split
   .rename_i hc3;rw[if_pos hc3]at h;exact absurd h (by simp)
   .rename_i hc3;simp only[not_or,Bool.not_eq_false]at hc;exact NO.right_app hc.1 (by omega) hc.2 (by show NO.placeI l o.id<0;omega)
theorem closeS_right {l:List Ord} {id:ByteArray} (h:(NO.closeS l id).2=0):NO.rightB (NO.closeS l id).1=true:=by
 unfold NO.closeS at h ⊢
 split
 .rename_i hc;rw[if_pos hc]at h;exact absurd h (by simp)
 .rename_i hc;rw[if_neg hc]at h
  split
  .rename_i hc2;rw[if_pos hc2]at h;exact absurd h (by simp)
  .rename_i hc2;have hR:NO.rightB l=true:=by simpa using hc
   obtain ⟨hp,hp0,ho⟩:=NO.openI_spec hc2;have hlt:=(NO.placeI_lt l id).2;have hm:=((NO.Zy.1 hR).2 (NO.openI l id).toNat (by omega)).1;exact NO.right_set hR rfl hm
theorem fillS_right {l:List Ord} {id:ByteArray} {q p:Int} (h:(NO.fillS l id q p).2=0):NO.rightB (NO.fillS l id q p).1=true:=by
 unfold NO.fillS at h ⊢
 split
 .rename_i hc;rw[if_pos hc]at h;exact absurd h (by simp)
 .rename_i hc;rw[if_neg hc]at h
  split
  .rename_i hc2;rw[if_pos hc2]at h;exact absurd h (by simp)
  .rename_i hc2;rw[if_neg hc2]at h
   split
   .rename_i hc3;rw[if_pos hc3]at h;exact absurd h (by simp)
   .rename_i hc3;rw[if_neg hc3]at h
    split
    .rename_i hc4;rw[if_pos hc4]at h;exact absurd h (by simp)
    .have hR:NO.rightB l=true:=by simpa using hc
     obtain ⟨hp,hp0,ho⟩:=NO.openI_spec hc2;have hlt:=(NO.placeI_lt l id).2;have hm:=((NO.Zy.1 hR).2 (NO.openI l id).toNat (by omega)).1;refine NO.right_set hR rfl ?_
     have hle:NO.leftI (l.getD (NO.openI l id).toNat default)=(l.getD (NO.openI l id).toNat default).qty - (l.getD (NO.openI l id).toNat default).done:=by
      rw[NO.leftI,if_pos ⟨hm,by rw[<-hp];exact ho⟩]
     generalize l.getD (NO.openI l id).toNat default=x at hm hle hc3 ⊢;have hs:=NO.mayB_spec hm;simp only[NO.mayB,NO.flO,Bool.and_eq_true,decide_eq_true_eq]at hm ⊢;rw[hle]at hc3;refine ⟨⟨hm.1.1,?_⟩,?_⟩
     .exact decide_eq_true (by omega)
     .exact decide_eq_true (by omega)
theorem changeS_right {l:List Ord} {old id:ByteArray} {q p:Int} (h:(NO.changeS l old id q p).2=0):NO.rightB (NO.changeS l old id q p).1=true:=by
 unfold NO.changeS at h ⊢
 split
 .rename_i hc;rw[if_pos hc]at h;exact absurd h (by simp)
 .rename_i hc;rw[if_neg hc]at h
  split
  .rename_i hc2;rw[if_pos hc2]at h;exact absurd h (by simp)
  .rename_i hc2;rw[if_neg hc2]at h
   split
   .rename_i hc3;rw[if_pos hc3]at h;exact absurd h (by simp)
   .rename_i hc3;rw[if_neg hc3]at h
    split
    .rename_i hc4;rw[if_pos hc4]at h;exact absurd h (by simp)
    .rename_i hc4;rw[if_neg hc4]at h
     split
     .rename_i hc5;rw[if_pos hc5]at h;exact absurd h (by simp)
     .rename_i hc5;have hR:NO.rightB l=true:=by simpa using hc
      obtain ⟨hp,hp0,ho⟩:=NO.openI_spec hc2;have hlt:=(NO.placeI_lt l old).2;have hm:=((NO.Zy.1 hR).2 (NO.openI l old).toNat (by omega)).1;have hset:NO.rightB (l.set (NO.openI l old).toNat (NO.shut (l.getD (NO.openI l old).toNat default)))=true:=NO.right_set hR rfl hm;refine NO.right_app hset (by rw[List.length_set];omega) (by simpa using hc3) ?_;have hid:(l.set (NO.openI l old).toNat (NO.shut (l.getD (NO.openI l old).toNat default))).map NO.Ord.id=l.map NO.Ord.id:=NO.map_set_id _ _ _ rfl;show NO.placeI _ id<0;rw[NO.placeI_congr hid];omega
theorem nodup_le {α:Type} [DecidableEq α]:∀ {l m:List α},l.Nodup->(∀a,a∈l->a∈m)->l.length<=m.length
 | [],_,_,_=>Nat.zero_le _
 | a::l,m,h,hs=>by
  rw[List.nodup_cons]at h;have ha:=hs a (List.mem_cons_self ..);have:=nodup_le (l:=l) (m:=m.erase a) h.2 fun b hb=>(List.mem_erase_of_ne (fun e=>h.1 (by rw[<-e];exact hb))).2 (hs b (List.mem_cons_of_mem _ hb));rw[List.length_erase_of_mem ha]at this;have:=List.length_pos_of_mem ha;rw[List.length_cons];omega
theorem eqB_iff {a b:ByteArray}:eqB a b=true↔a=b:=by
 rw[beq_iff_eq];constructor
 .intro h
  cases a with|mk a=>cases b with|mk b=>cases a;cases b;simp_all
 .rintro rfl;rfl
theorem any_eqB {l:List ByteArray} {s:ByteArray}:l.any (eqB s)=true↔s∈l:=by
 rw[List.any_eq_true];constructor
 .rintro ⟨x,hx,h⟩;rw[eqB_iff.1 h];exact hx
 .intro h;exact ⟨s,h,eqB_iff.2 rfl⟩
theorem getD_memF {l:List Fil} {i:Nat} (h:i<l.length):l.getD i default∈l:=by
 rw[List.getD_eq_getElem?_getD,List.getElem?_eq_getElem h];exact List.getElem_mem h
structure keepP (b c:Bk) (x:Exe) (e:Int):Prop where
 err:e≠0->c=b
 rng:0<=e/\e<=6
 time:e=0->b.clock<=x.time
 ids:c.ids=b.ids
 clock:c.clock=b.clock
 bad:c.bad=b.bad
 ords:NO.rightB c.ords=true
 names:c.fills.map (·.id)=b.fills.map (·.id)\/(e=0/\c.fills.map (·.id)=b.fills.map (·.id)++[x.id])
 fills:∀f,f∈c.fills->NO.amountB f.qty=true/\NO.amountB f.price=true/\0<=f.time/\(f.time<=b.clock\/f.time=x.time)
theorem Yd {b:Bk} {x:Exe} {e:Int} (h:bkP b) (he:1<=e/\e<=6):keepP b b x e where
 err:=fun _=>rfl
 rng:=⟨by omega,he.2⟩
 time:=fun h=>by omega
 ids:=rfl
 clock:=rfl
 bad:=rfl
 ords:=h.ords
 names:=.inl rfl
 fills:=fun f hf=>by have:=h.fills f hf;exact ⟨this.1,this.2.1,this.2.2.1,.inl this.2.2.2.1⟩
theorem keep_ords {b:Bk} {x:Exe} {l:List Ord} (h:bkP b) (ht:b.clock<=x.time) (hl:NO.rightB l=true):keepP b { b with ords:=l } x 0 where
 err:=fun h=>absurd rfl h
 rng:=by omega
 time:=fun _=>ht
 ids:=rfl
 clock:=rfl
 bad:=rfl
 ords:=hl
 names:=.inl rfl
 fills:=fun f hf=>by have:=h.fills f hf;exact ⟨this.1,this.2.1,this.2.2.1,.inl this.2.2.2.1⟩
theorem keep_set {b:Bk} {x:Exe} {i:Nat} {g:Fil} (h:bkP b) (ht:b.clock<=x.time) (hi:i<b.fills.length) (hid:g.id=(b.fills.getD i default).id) (hg:NO.amountB g.qty=true/\NO.amountB g.price=true/\g.time=(b.fills.getD i default).time) :
 keepP b { b with fills:=b.fills.set i g } x 0 where
 err:=fun h=>absurd rfl h
 rng:=by omega
 time:=fun _=>ht
 ids:=rfl
 clock:=rfl
 bad:=rfl
 ords:=h.ords
 names:=by
  left;show (b.fills.set i g).map (·.id)=b.fills.map (·.id);rw[List.map_set];apply List.ext_getElem?;intro j;by_cases e:i=j
  .subst e;rw[List.getElem?_set_self (by simpa using hi),hid,List.getD_eq_getElem?_getD,List.getElem?_map,List.getElem?_eq_getElem hi];rfl
  .rw[List.getElem?_set_ne e]
 fills:=fun f hf=>by
  rcases List.mem_or_eq_of_mem_set hf with hf|rfl
  .have:=h.fills f hf;exact ⟨this.1,this.2.1,this.2.2.1,.inl this.2.2.2.1⟩
  .have:=h.fills _ (getD_memF hi);exact ⟨hg.1,hg.2.1,by rw[hg.2.2];exact this.2.2.1,.inl (by rw[hg.2.2];exact this.2.2.2.1)⟩
theorem amend_keep {b:Bk} {x:Exe} (h:bkP b) (hx:exP x) (ht:b.clock<=x.time):keepP b (bamendS b x).1 x (bamendS b x).2:=by
 unfold bamendS
 split
 .exact Yd h (by dsimp only;omega)
 .split
  .exact Yd h (by dsimp only;omega)
  .split
   .exact Yd h (by dsimp only;omega)
   .have hlt:=(fstI_lt (fun f:Fil=>eqB f.id x.ref) b.fills).2
    have hi:(refI b.fills x).toNat<b.fills.length:=by
     have:refI b.fills x<b.fills.length:=hlt;omega
    have hf:=h.fills _ (getD_memF hi)
    split
    .exact keep_set h ht hi rfl ⟨hf.1,hf.2.1,rfl⟩
    .split
     .exact Yd h (by dsimp only;omega)
     .split
      .exact Yd h (by dsimp only;omega)
      .exact keep_set h ht hi rfl ⟨hx.qty,hx.price,rfl⟩
theorem fill_keep {b:Bk} {x:Exe} (h:bkP b) (hx:exP x) (ht:b.clock<=x.time):keepP b (bfillS b x).1 x (bfillS b x).2:=by
 unfold bfillS
 split
 .rename_i h0
  exact {
   err:=fun h=>absurd rfl h
   rng:=by dsimp only;omega
   time:=fun _=>ht
   ids:=rfl
   clock:=rfl
   bad:=rfl
   ords:=fillS_right h0
   names:=.inr ⟨rfl,by simp[filX]⟩
   fills:=fun f hf=>by
    rcases List.mem_append.1 hf with hf|hf
    .have:=h.fills f hf;exact ⟨this.1,this.2.1,this.2.2.1,.inl this.2.2.2.1⟩
    .rw[List.mem_singleton]at hf;subst hf
     exact ⟨hx.qty,hx.price,hx.time.1,.inr rfl⟩ }
 .split
  .exact Yd h (by dsimp only;omega)
  .split<;>exact Yd h (by dsimp only;omega)
theorem apply_keep {b:Bk} {x:Exe} (h:bkP b) (hx:exP x):keepP b (applyS b x).1 x (applyS b x).2:=by
 unfold applyS
 split
 .exact Yd h (by dsimp only;omega)
 .rename_i ht;have ht:b.clock<=x.time:=by omega
  split
  .split
   .rename_i h0;exact keep_ords h ht (newS_right h0)
   .exact Yd h (by dsimp only;omega)
  .split
   .exact amend_keep h hx ht
   .generalize (if x.kind=4 then x.ref else x.ord)=id
    split
    .exact Yd h (by dsimp only;omega)
    .split
     .exact Yd h (by dsimp only;omega)
     .split
      .exact fill_keep h hx ht
      .split
       .unfold breplS
        split
        .rename_i h0;exact keep_ords h ht (changeS_right h0)
        .split<;>exact Yd h (by dsimp only;omega)
       .split
        .rename_i h0;exact keep_ords h ht (closeS_right h0)
        .exact Yd h (by dsimp only;omega)
theorem ids_right {b:Bk} {s:ByteArray} (h:bkP b) (hl:b.ids.length<256) (hs:s∉b.ids):bkP { b with ids:=b.ids++[s] } where
 ords:=h.ords
 fl:=h.fl
 il:=by show (b.ids++[s]).length<=256;rw[List.length_append,List.length_singleton];omega
 clock:=h.clock
 bad:=h.bad
 ids:=by
  show (b.ids++[s]).Nodup;rw[List.nodup_append];refine ⟨h.ids,by simp,fun a ha b hb=>?_⟩;rw[List.mem_singleton]at hb;rintro rfl;exact hs (by rw[<-hb];exact ha)
 fills:=fun f hf=>by have:=h.fills f hf;exact ⟨this.1,this.2.1,this.2.2.1,this.2.2.2.1,List.mem_append_left _ this.2.2.2.2⟩
 names:=h.names
theorem take_right {b:Bk} {x:Exe} (h:bkP b) (hx:exP x):bkP (takeS b x).1:=by
 unfold takeS
 split
 .exact h
 .rename_i hc
  split
  .exact h
  .rename_i hn;have hn:x.id∉b.ids:=fun hm=>hn (any_eqB.2 hm);have hl:b.ids.length<256:=by omega
   have h1:=ids_right h hl hn;have k:=apply_keep h1 hx;generalize hr:applyS { b with ids:=b.ids++[x.id] } x=r at k ⊢;obtain ⟨c,e⟩:=r;dsimp only at k ⊢
   split
   .rename_i he;subst he;have ht:=k.time rfl
    have hnm:(c.fills.map (·.id)).Nodup/\(∀f,f∈c.fills->f.id∈b.ids++[x.id]):=by
     rcases k.names with hk|⟨_,hk⟩
     .refine ⟨by rw[hk];exact h1.names,fun f hf=>?_⟩;have:f.id∈c.fills.map (·.id):=List.mem_map.2 ⟨f,hf,rfl⟩;rw[hk]at this;obtain ⟨g,hg,e⟩:=List.mem_map.1 this;rw[<-e];exact (h1.fills g hg).2.2.2.2
     .refine ⟨?_,fun f hf=>?_⟩
      .rw[hk,List.nodup_append];refine ⟨h1.names,by simp,fun a ha b' hb=>?_⟩;rw[List.mem_singleton]at hb;obtain ⟨g,hg,e⟩:=List.mem_map.1 ha;rintro rfl;exact hn (by rw[<-hb,<-e];exact (h.fills g hg).2.2.2.2)
      .have:f.id∈c.fills.map (·.id):=List.mem_map.2 ⟨f,hf,rfl⟩;rw[hk]at this;rcases List.mem_append.1 this with this|this
       .obtain ⟨g,hg,e⟩:=List.mem_map.1 this;rw[<-e];exact (h1.fills g hg).2.2.2.2
       .exact List.mem_append_right _ this
    have hcl:b.clock<=x.time:=ht
    exact {
     ords:=k.ords
     fl:=by
      have:=nodup_le hnm.1 (m:=b.ids++[x.id]) fun a ha=>by
       obtain ⟨g,hg,e⟩:=List.mem_map.1 ha;rw[<-e];exact hnm.2 g hg
      rw[List.length_map,List.length_append,List.length_singleton]at this;show c.fills.length<=256;omega
     il:=by show c.ids.length<=256;rw[k.ids];exact h1.il
     clock:=by show 0<=x.time/\x.time<=_;exact hx.time
     bad:=by show 0<=c.bad/\c.bad<=6;rw[k.bad];exact h1.bad
     ids:=by show c.ids.Nodup;rw[k.ids];exact h1.ids
     fills:=fun f hf=>by
      have:=k.fills f hf;refine ⟨this.1,this.2.1,this.2.2.1,?_,?_⟩
      .show f.time<=x.time;rcases this.2.2.2 with h|h
       .have h:f.time<=b.clock:=h;omega
       .omega
      .show f.id∈c.ids;rw[k.ids];exact hnm.2 f hf
     names:=hnm.1 }
   .rename_i he;have e1:=k.err he;subst e1;exact { h1 with bad:=k.rng }
section
open Go.RowKit Go.Maps Go.Sort Go.Shelf
theorem rowS_one {l:List ByteArray} {i j:Nat} {r:List V} {v:V} (hi:(sR l)[i]?=some r) (hj:r[j]?=some v):j=0/\∃s,l[i]?=some s/\v=.x (.string s):=by
 rw[List.getElem?_map]at hi;obtain ⟨s,hs,rfl⟩:=Option.map_eq_some_iff.1 hi
 cases j with
 | zero=>cases hj;exact ⟨rfl,s,hs,rfl⟩
 | succ j=>simp at hj
theorem sort_c (l:List ByteArray) (hl:l.length<=1000000):ACall prog 106 [.row 1 (sR l)] [.e (.c (.o 0 l.length))] (.t []) [.row 1 (sR (sortS l))]:=by
 refine ⟨⟨_,func106,by kernel_rfl,by kernel_rfl⟩,fun own0 w ρ vs hm ha=>?_⟩
 match vs,ha with
 | [u],⟨hu,_⟩ =>
  obtain ⟨m,hp,hv⟩:=hu;obtain ⟨hlen,m',hp',hb⟩:=hm.blks 0 _ rfl;rw[hp]at hp';cases hp'
  cases m with
  | nil =>
   obtain ⟨hn,a,rfl⟩:=hv;have:l=[]:=List.eq_nil_of_length_eq_zero hn;subst this;refine (Any.slices_Sort_string_none layS a 0 w).mono ?_;rintro e w' ⟨rfl,rfl⟩;have e:sortS []=[]:=by simp[sortS]
   rw[e]
   exact ⟨_,ρ,rfl,Sub.refl _,⟨[],rfl,trivial⟩,hm⟩
  | blk b base cap =>
   obtain ⟨rfl,hcap⟩:=hv;obtain ⟨h1,cs,T,fr,hh,hf,hsz,hcells⟩:=hb;have hblk:b<w.heap.size:=(Array.getElem?_eq_some_iff.1 hh).1;have hlb:base+l.length<=cs.size:=by omega
   have hin:∀j (hj:j<l.length),cs[base+j]?=some (.string (l.getD j default)):=fun j hj=>by
    obtain ⟨x,hx,hr⟩:=hcells j [.x (.string (l.getD j default))] 0 _ (by simp[hj]) rfl;cases hr;rw[<-hx];simp
   have hnf:∀k,k<cs.size->¬(fr.1<=k/\k<fr.2):=fun k hk=>hf.1.off k hk
   have hH:Holds encStr w b base ((l.map fun s=>s.data.toList).toArray):=fun j hj=>by
    have hj:j<l.length:=by simpa using hj
    constructor
    .simp only[World.cell?,hh,Option.isSome_none,Bool.false_eq_true,if_false];rw[hin j hj];simp[encStr,hj]
    .simp only[World.frozen?,hh];have:=hnf (base+j) (by omega);simpa using this
   have hS:=Any.slices_Sort_string layS b base cap (l.map fun s=>s.data.toList) w hH hblk (by simp;omega);rw[List.length_map]at hS;refine hS.mono ?_;rintro e w' ⟨rfl,n,os,rfl⟩;refine ⟨_,ρ,rfl,Sub.refl _,⟨[],rfl,trivial⟩,?_⟩;have hM:((l.map fun s=>s.data.toList).mergeSort fun x y=>decide (x<=y)).length=l.length:=by rw[List.length_mergeSort,List.length_map]
   have hb':(grow (putRow encStr (Sort.ahead w n) b base ((l.map fun s=>s.data.toList).mergeSort fun x y=>decide (x<=y)).toArray) os).heap[b]?=some (.cells (putCells encStr base ((l.map fun s=>s.data.toList).mergeSort fun x y=>decide (x<=y)).toArray cs) T fr):=by
    rw[heap_grow_old _ _ (by simpa using hblk)];simp[putRow,mapBlock,Sort.ahead,Array.getElem?_modify,hh,onCells]
   obtain ⟨W',hW'⟩:∃W',grow (putRow encStr (Sort.ahead w n) b base ((l.map fun s=>s.data.toList).mergeSort fun x y=>decide (x<=y)).toArray) os=W':=⟨_,rfl⟩
   have f1:W'.os=w.os:=by rw[<-hW'];rfl
   have f2:W'.tape=w.tape:=by rw[<-hW'];rfl
   have f3:W'.output=w.output:=by rw[<-hW'];rfl
   have f4:w.heap.size<=W'.heap.size:=by rw[<-hW'];simp
   have f5:∀k,k<w.heap.size->k≠b->W'.heap[k]?=w.heap[k]?:=fun k hk hne=>by
    rw[<-hW',heap_grow_old _ _ (by simpa using hk)];have:b≠k:=fun e=>hne (by rw[e]);simp[putRow,mapBlock,Sort.ahead,Array.getElem?_modify,this]
   rw[hW']at hb' ⊢;clear hW'
   have hr:RepB W' (Ow own0 ρ fun i=>[Blk.row 1 (sR l)][i]?) ρ 0 (.row 1 (sR (sortS l))):=by
    refine ⟨fun r hr=>?_,_,hp,?_,_,T,fr,hb',hf.size (by simp[putCells]),?_,fun i r j v hi hj=>?_⟩
    .obtain ⟨s,_,rfl⟩:=List.mem_map.1 hr;rfl
    .rw[List.length_map,Yw];exact hcap
    .simpa[putCells] using hsz
    .obtain ⟨rfl,s,hs,rfl⟩:=rowS_one hi hj;have hil:=(List.getElem?_eq_some_iff.1 hs).1;rw[Yw]at hil;refine ⟨.string s,?_,.x _ rfl⟩;unfold sortS at hs;rw[List.getElem?_map]at hs;obtain ⟨d,hd,rfl⟩:=Option.map_eq_some_iff.1 hs;have hk:base+i<cs.size:=by omega
     have e1:base+i*1+0=base+i:=by omega
     rw[e1];simp only[putCells,Array.getElem?_mapIdx,Array.getElem?_eq_getElem hk,Option.map_some,Nat.add_sub_cancel_left,List.size_toArray,hM];rw[if_pos ⟨by omega,by omega⟩];simp[encStr,hd]
   have:=(mem_put hm hp rfl rfl f1 f2 f3 f4 f5 hb' hr).1
   have eH:upd (fun i=>[Blk.row 1 (sR l)][i]?) 0 (some (.row 1 (sR (sortS l))))=fun i=>[Blk.row 1 (sR (sortS l))][i]?:=by
    funext i
    cases i with
    | zero=>rfl
    | succ i=>simp[upd]
   rwa [eH]at this
theorem ba_mk (s:ByteArray):(⟨s.data.toList.toArray⟩:ByteArray)=s:=by cases s with|mk d=>simp
theorem sortS_perm (l:List ByteArray):(sortS l).Perm l:=by
 have h:=(List.mergeSort_perm (l.map fun s=>s.data.toList) fun x y=>decide (x<=y)).map fun d=>(⟨d.toArray⟩:ByteArray)
 rw[List.map_map]at h
 have e:(l.map ((fun d=>(⟨d.toArray⟩:ByteArray)) ∘ fun s=>s.data.toList))=l:=by
  conv=>rhs;rw[<-List.map_id l]
  exact List.map_congr_left fun s _=>ba_mk s
 rw[e]at h;exact h
theorem twB_of {l:List ByteArray} (h:l.Nodup):twB l=false:=by
 rw[twB,List.any_eq_false];intro i hi;have hi:=List.mem_range.1 hi;rw[Bool.and_eq_true,decide_eq_true_eq];rintro ⟨h1,h2⟩;have h2:=eqB_iff.1 h2;rw[List.getD_eq_getElem?_getD,List.getD_eq_getElem?_getD,List.getElem?_eq_getElem hi,List.getElem?_eq_getElem (by omega)]at h2;have:=(List.nodup_iff_pairwise_ne.1 h)
 rw[List.pairwise_iff_getElem]at this;exact this (i - 1) i (by omega) hi (by omega) h2.symm
theorem twB_sort {l:List ByteArray} (h:l.Nodup):twB (sortS l)=false:=twB_of ((sortS_perm l).nodup_iff.2 h)
theorem sortS_pair (l:List ByteArray):(sortS l).Pairwise fun a b=>ltB b a=false:=by
 unfold sortS;rw[List.pairwise_map];refine (List.pairwise_mergeSort (le:=fun x y=>decide (x<=y)) (fun a b c h1 h2=>?_) (fun a b=>?_) _).imp fun {a b} h=>?_
 .simp only[decide_eq_true_eq]at *;exact List.le_trans h1 h2
 .simp only[Bool.or_eq_true,decide_eq_true_eq];exact List.le_total a b
 .simp only[decide_eq_true_eq]at h;rw[ltB,bytesLess_eq];simp only[decide_eq_false_iff_not];exact List.not_lt.2 h
def aheadN (l:List ByteArray) (x:ByteArray):Nat:=(l.takeWhile fun y=>ltB y x).length
theorem takeWhile_lt {l:List ByteArray} {x:ByteArray}:∀j,j<aheadN l x->ltB (l.getD j default) x=true:=by
 intro j hj;unfold aheadN at hj;have hm:=List.getElem_mem hj;have h1:=List.all_eq_true.1 List.all_takeWhile _ hm
 have e:(l.takeWhile fun y=>ltB y x)[j]=l.getD j default:=by
  have hp:=List.takeWhile_prefix (fun y=>ltB y x) (l:=l);have:=hp.getElem hj;rw[this,List.getD_eq_getElem?_getD,List.getElem?_eq_getElem (Nat.lt_of_lt_of_le hj hp.length_le)];rfl
 rw[e]at h1;exact h1
theorem takeWhile_end {l:List ByteArray} {x:ByteArray} (h:aheadN l x<l.length):ltB (l.getD (aheadN l x) default) x=false:=by
 induction l with
 | nil=>simp at h
 | cons a l ih =>
  unfold aheadN at h ⊢;rw[List.takeWhile_cons]at h ⊢
  split
  .rename_i ha;rw[if_pos ha]at h;simp only[List.length_cons]at h ⊢;have:=ih (by unfold aheadN;omega);simpa[aheadN] using this
  .rename_i ha;simpa using ha
theorem search_mem (l:List ByteArray) (x:ByteArray) (hl:l.length<=1000000) (hx:x∈l):∃n:Nat,ACall prog 105 [] [ssD (sortS l),StD x] (.t [.c (.v (vI n)),.c (.v (.x (.bool true)))]) []:=by
 have hp:=sortS_pair l;rw[List.pairwise_iff_getElem]at hp;have hlen:=Yw l;have gd:∀j (hj:j<(sortS l).length),(sortS l).getD j default=(sortS l)[j]:=fun j hj=>by rw[List.getD_eq_getElem?_getD,List.getElem?_eq_getElem hj];rfl
 have hn:aheadN (sortS l) x<=(sortS l).length:=(List.takeWhile_prefix _).length_le
 have h2:∀j,aheadN (sortS l) x<=j->j<(sortS l).length->ltB ((sortS l).getD j default) x=false:=by
  intro j h1 hj;by_cases e:aheadN (sortS l) x=j
  .have:=takeWhile_end (l:=sortS l) (x:=x) (by omega)
   rwa [e]at this
  .have h0:=takeWhile_end (l:=sortS l) (x:=x) (by omega);have hh:=hp _ j (by omega) hj (by omega:aheadN (sortS l) x<j);rw[gd _ (by omega)]at h0;rw[gd j hj]
   cases hlt:ltB (sortS l)[j] x with
   | false=>rfl
   | true =>
    exfalso;rcases NA.bl_total ((sortS l)[aheadN (sortS l) x]'(by omega)).data.toList (sortS l)[j].data.toList with h|h|h
    .have:=NA.bl_trans _ _ _ h hlt;rw[ltB]at h0;rw[h0]at this;cases this
    .rw[ltB,<-h]at hlt;rw[ltB]at h0;rw[h0]at hlt;cases hlt
    .rw[ltB]at hh;rw[hh]at h;cases h
 have hc:=searchS_c (sortS l) x (by omega) _ hn takeWhile_lt h2;have hxs:x∈sortS l:=(sortS_perm l).mem_iff.2 hx;obtain ⟨i,hi,hix⟩:=List.getElem_of_mem hxs
 have hge:aheadN (sortS l) x<=i:=by
  rcases Nat.lt_or_ge i (aheadN (sortS l) x) with h|h
  .have:=takeWhile_lt i h;rw[gd i hi,hix,ltB,NA.bl_irr]at this;cases this
  .exact h
 have heq:eqB ((sortS l).getD (aheadN (sortS l) x) default) x=true:=by
  rw[eqB_iff];have h0:=h2 _ (Nat.le_refl _) (by omega);by_cases e:aheadN (sortS l) x=i
  .rw[e,gd i hi,hix]
  .have hh:=hp _ i (by omega) hi (by omega:aheadN (sortS l) x<i);rw[gd _ (by omega)]at h0 ⊢;rw[hix]at hh;rcases NA.bl_total ((sortS l)[aheadN (sortS l) x]'(by omega)).data.toList x.data.toList with h|h|h
   .rw[ltB]at h0;rw[h0]at h;cases h
   .exact NA.ba_eq h
   .rw[ltB]at hh;rw[hh]at h;cases h
 rw[heq,decide_eq_true (by omega)]at hc;exact ⟨_,hc⟩
end
theorem take_sR (l:List ByteArray) (n:Nat) (h:n=l.length):List.take n (l.map fun s=>[V.x (.string s)])=l.map fun s=>[V.x (.string s)]:=by
 subst h;exact List.take_of_length_le (by simp)
theorem app_sR (l:List ByteArray) (s:ByteArray):(l.map fun s=>[V.x (.string s)])++[[V.x (.string s)]]=(l++[s]).map fun s=>[V.x (.string s)]:=by simp
theorem names_row (l:List Fil) (i:Nat) (h:i<l.length):sR ((l.take (i+1)).map (·.id))=List.take i (sR ((l.take i).map (·.id)))++[[V.x (.string (l.getD i default).id)]]:=by
 have e:List.take i (sR ((l.take i).map (·.id)))=sR ((l.take i).map (·.id)):=List.take_of_length_le (by simp[Nat.min_le_left]);rw[e,List.take_add_one,List.getElem?_eq_getElem h,List.getD_eq_getElem?_getD,List.getElem?_eq_getElem h];simp only[Option.toList_some,List.map_append,List.map_cons,List.map_nil,Option.getD_some]
def qBD1:=PLift.up (An @Z0 (An @Zh (An @take_sR (An @app_sR @List.take_length.{0}))))
theorem bkRight_c (b:Bk) (h:bkP b):ACall prog 35 [] [bkD b] (B true) []:=by
 have hfl:=h.fl;have hil:=h.il;have hclock:=h.clock;have hbad:=h.bad;have hord:ACall prog 100 [] [NO.osD b.ords] (B true) []:=by rw[<-h.ords];exact NO.right_c _
 have hsorted:=sorted_c b.ids (by omega);have htw1:=twice_c (sortS b.ids) (by rw[Yw];omega) false (twB_sort h.ids);refine Ac func35 ?_;refine Wk qBD1.1 (An @hord (An @hsorted (An @htw1 @values_c))) ?_;refine Cb ?_ ?_<;>intro hc<;>(try exact ⟨⟩)
 .exfalso;omega
 .refine Wk qBD1.1 (An @hord (An @hsorted (An @htw1 @values_c))) ?_;refine Cb ?_ ?_<;>intro hc<;>(try exact ⟨⟩)
  .contradiction
  .refine Wk qBD1.1 (An @hord (An @hsorted (An @htw1 @values_c))) ?_
   refine AWp.loop (fun i:Nat=>mkSt [(1,.p 0 0),(3,ssD (sortS b.ids)),(4,.e (.c (.o 1 i))),(52,fsD b.fills),(53,I b.fills.length),(54,I i)] [(0,.loc (bkC b)),(1,.row 1 (sR ((b.fills.take i).map (·.id))))] 2)
    (fun i=>i<=b.fills.length) (fun i=>b.fills.length - i) 0 (Nat.zero_le _) (by refine Le.of (τ:=[]) (ν:=[1]) (by kernel_rfl) ?_ ?_<;>((refine Lw qBD1.1 ?_;try exact ⟨⟩);try (first|omega|rfl))) fun i hi=>?_
   refine Wk qBD1.1 (An @hord (An @hsorted (An @htw1 @values_c))) ?_;refine Cb ?_ ?_<;>intro hc<;>(try exact ⟨⟩)
   .have hil:i<b.fills.length:=by omega
    obtain ⟨hq,hp,ht0,ht1,hm⟩:=h.fills _ (getD_memF hil);have ham1:=amount_c (b.fills.getD i default).qty;have ham2:=amount_c (b.fills.getD i default).price;rw[hq]at ham1;rw[hp]at ham2;obtain ⟨n,hsearch⟩:=search_mem b.ids (b.fills.getD i default).id (by omega) hm;refine Wk qBD1.1 (An @hord (An @hsorted (An @htw1 (An @ham1 (An @ham2 (An @hsearch @values_c)))))) ?_;refine Cb ?_ ?_<;>intro hc<;>(try exact ⟨⟩)
    .exfalso;omega
    .refine Wk qBD1.1 (An @hord (An @hsorted (An @htw1 (An @ham1 (An @ham2 (An @hsearch @values_c)))))) ?_;refine Cb ?_ ?_<;>intro hc<;>(try exact ⟨⟩)
     .contradiction
     .refine Wk qBD1.1 (An @hord (An @hsorted (An @htw1 (An @ham1 (An @ham2 (An @hsearch @values_c)))))) ?_;refine Za (τ:=ren [(1,2690)]) (ν:=[]) (i+1) (show i+1<=b.fills.length by omega) (by omega) ?_;refine Le.of (by kernel_rfl) ?_ ?_<;>((refine Lw qBD1.1 ?_;try exact ⟨⟩);try (first|omega|rfl|exact names_row _ _ hil))
   .have e:i=b.fills.length:=by omega
    subst e;have hsort:=sort_c (b.fills.map (·.id)) (by rw[List.length_map];omega);rw[List.length_map]at hsort;have hlen:(sortS (b.fills.map (·.id))).length=b.fills.length:=by rw[Yw,List.length_map]
    have htw2:=twice_c (sortS (b.fills.map (·.id))) (by rw[Yw,List.length_map];omega) false (twB_sort h.names)
    repeat' (first|((fail_if_success clear hK);change AWp _ _ _ _ _ _;first|refine AWp.seq ?_|refine AWp.text (own:=(oF [106])) tG_ok (by kernel_rfl) (fun K hK=>?_)|refine AWp.draw (own:=(oF [106])) tG_ok mixed (by kernel_rfl) (by kernel_rfl) (fun K hK=>?_)|refine AWp.skip ?_|refine AWp.ret ?_|refine AWp.exit ?_|refine AWp.label ?_|refine AWp.block ?_)|(revert hK;intro hK;first|(with_reducible refine hK _ _ _ ?_;clear hK K)|(with_reducible refine hK _ _ _ ?_ ?_;(focus kernel_rfl);clear hK K)|((with_reducible change CallS _ _ _ _ _ _);(first|refine CallS.of hord ?_|refine CallS.of (values_c _) ?_|refine CallS.of hsorted ?_|refine CallS.of htw1 ?_|refine CallS.of ham1 ?_|refine CallS.of ham2 ?_|refine CallS.of hsearch ?_|refine CallS.of hsort ?_|refine CallS.of htw2 ?_))|(with_reducible refine And.intro ?_ ?_)|(simp (disch:=omega) only[↓reduceIte,Zo,backT,pos,idsB,idsC,nodup,live,makeSliceE,viewE,viewFE,appendUE,appendFE,capFE,copyE,copySrc,clearE,guardB,isNilOp,nilS,withTy,splice,lenE,appendE,sliceE,boundE,indexAddrE,indexE,buildE,fillE,buildSliceE,partsE,builtinE,minE,minI,convE,convHE,appendNE,capE,D.x,id_eq,eq_self,if_true,if_false,ne_eq,implies_true,Nat.reduceAdd,Nat.reduceMul,Nat.reduceSub,Nat.reduceEqDiff,Nat.reduceLT,Nat.reduceLeDiff,reduceCtorEq,Z0,Zh,take_sR,app_sR,List.take_length,Zp,forall_const,Nat.reduceBEq,Int.reduceEq,Int.reduceToNat,bne_self_eq_false,true_and,tyAll])|(first|omega|(intro hq;(try simp only[Zf,ne_eq,Bool.not_not,Bool.and_true]at hq);first|omega|assumption|(simp_all;done))|(simp_all;done))|(intro (bn:Bool) hbn)))
    refine Fn @results35 qBD1.1 ?_;try exact ⟨⟩
end Eng
end Go.Proofs.YtgenjpingdkmgaaGreatDoor
