/- Contracts of functions that this seat's law calls. No condition. -/
import Derived.Shelf.Sort.Plain
import Derived.Shelf.Slices.In.SortNone
import Derived.Shelf.SlIter.Sorted
import Derived.Test.YtgenjpingdkmgaaGreatDoorM13
set_option maxRecDepth 100000
set_option linter.unusedSimpArgs false
set_option linter.unusedVariables false
namespace Go.Proofs.YtgenjpingdkmgaaGreatDoor
namespace Eng
abbrev Ord:=NO.Ord
structure Exe where
 id:ByteArray
 ref:ByteArray
 ord:ByteArray
 acc:ByteArray
 sym:ByteArray
 kind:Int
 buy:Bool
 qty:Int
 price:Int
 time:Int
instance :Inhabited Exe:=⟨⟨⟨#[]⟩,⟨#[]⟩,⟨#[]⟩,⟨#[]⟩,⟨#[]⟩,0,false,0,0,0⟩⟩
structure Fil where
 id:ByteArray
 ord:ByteArray
 acc:ByteArray
 sym:ByteArray
 buy:Bool
 qty:Int
 price:Int
 time:Int
 lv:Bool
instance :Inhabited Fil:=⟨⟨⟨#[]⟩,⟨#[]⟩,⟨#[]⟩,⟨#[]⟩,false,0,0,0,false⟩⟩
structure Bk where
 ords:List Ord
 fills:List Fil
 ids:List ByteArray
 clock:Int
 bad:Int
instance :Inhabited Bk:=⟨⟨[],[],[],0,0⟩⟩
instance :Inhabited ByteArray:=⟨⟨#[]⟩⟩
abbrev vS (s:ByteArray):V:=.x (.string s)
abbrev vB (b:Bool):V:=.x (.bool b)
abbrev xC (x:Exe):List C:=[.v (vS x.id),.v (vS x.ref),.v (vS x.ord),.v (vS x.acc),.v (vS x.sym),.v (vI x.kind),.v (vB x.buy),.v (vI x.qty),.v (vI x.price),.v (vI x.time)]
abbrev xD (x:Exe):D:=.e (.a (xC x))
abbrev fV (f:Fil):List V:=[vS f.id,vS f.ord,vS f.acc,vS f.sym,vB f.buy,vI f.qty,vI f.price,vI f.time,vB f.lv]
abbrev fC (f:Fil):List C:=[.v (vS f.id),.v (vS f.ord),.v (vS f.acc),.v (vS f.sym),.v (vB f.buy),.v (vI f.qty),.v (vI f.price),.v (vI f.time),.v (vB f.lv)]
abbrev fD (f:Fil):D:=.e (.a (fC f))
abbrev fR (l:List Fil):List (List V):=l.map fun f=>[V.x (.string f.id),V.x (.string f.ord),V.x (.string f.acc),V.x (.string f.sym),V.x (.bool f.buy),V.x (.int .i64 f.qty),V.x (.int .i64 f.price),V.x (.int .i64 f.time),V.x (.bool f.lv)]
abbrev sR (l:List ByteArray):List (List V):=l.map fun s=>[V.x (.string s)]
theorem Z3 (l:List Fil) (i:Nat):(l.map fun f=>[V.x (.string f.id),V.x (.string f.ord),V.x (.string f.acc),V.x (.string f.sym),V.x (.bool f.buy),V.x (.int .i64 f.qty),V.x (.int .i64 f.price),V.x (.int .i64 f.time),V.x (.bool f.lv)]).getD i
 [V.x (.string ⟨#[]⟩),V.x (.string ⟨#[]⟩),V.x (.string ⟨#[]⟩),V.x (.string ⟨#[]⟩),V.x (.bool false),V.x (.int .i64 0),V.x (.int .i64 0),V.x (.int .i64 0),V.x (.bool false)] =
 [V.x (.string (l.getD i default).id),V.x (.string (l.getD i default).ord),V.x (.string (l.getD i default).acc),V.x (.string (l.getD i default).sym),V.x (.bool (l.getD i default).buy),V.x (.int .i64 (l.getD i default).qty),V.x (.int .i64 (l.getD i default).price),V.x (.int .i64 (l.getD i default).time),V.x (.bool (l.getD i default).lv)]:=by
 simp only[List.getD_eq_getElem?_getD,List.getElem?_map]
 cases l[i]?<;>rfl
theorem Zh (l:List ByteArray) (i:Nat):(l.map fun s=>[V.x (.string s)]).getD i [V.x (.string ⟨#[]⟩)]=[V.x (.string (l.getD i default))]:=by
 simp only[List.getD_eq_getElem?_getD,List.getElem?_map]
 cases l[i]?<;>rfl
abbrev fsV (l:List Fil):V:=.s 9 (fR l)
abbrev ssV (l:List ByteArray):V:=.s 1 (sR l)
abbrev fsD (l:List Fil):D:=.e (.c (.v (fsV l)))
abbrev ssD (l:List ByteArray):D:=.e (.c (.v (ssV l)))
abbrev StD (s:ByteArray):D:=.e (.c (.v (vS s)))
abbrev bkC (b:Bk):List C:=[.v (NO.osV b.ords),.v (fsV b.fills),.v (ssV b.ids),.v (vI b.clock),.v (vI b.bad)]
abbrev bkD (b:Bk):D:=.e (.a (bkC b))
def fstN {α:Type} (p:α→Bool):List α→Option Nat
 | []=>none
 | a::l=>if p a then some 0 else (fstN p l).map (·+1)
def fstI {α:Type} (p:α→Bool) (l:List α):Int:=match fstN p l with
 | some i=>i
 | none=>-1
theorem fstN_none {α:Type} [Inhabited α] {p:α→Bool}:∀ {l:List α},(∀i,i<l.length→p (l.getD i default)=false)→fstN p l=none
 | [],_=>rfl
 | o::l,h=>by
  have h0:=h 0 (by simp)
  simp only[List.getD_cons_zero]at h0
  rw[fstN,if_neg (by rw[h0];simp),fstN_none (l:=l) fun i hi=>by have:=h (i+1) (by simpa using hi);simpa using this]
  rfl
theorem fstN_some {α:Type} [Inhabited α] {p:α→Bool}:∀ {l:List α} {k:Nat},k<l.length→(∀i,i<k→p (l.getD i default)=false)→p (l.getD k default)=true→fstN p l=some k
 | [],k,h,_,_=>by simp at h
 | o::l,0,_,_,h=>by
  simp only[List.getD_cons_zero]at h
  rw[fstN,if_pos h]
 | o::l,k+1,hk,h,he=>by
  have h0:=h 0 (by omega)
  simp only[List.getD_cons_zero]at h0
  rw[fstN,if_neg (by rw[h0];simp),fstN_some (l:=l) (k:=k) (by simpa using hk) (fun i hi=>by have:=h (i+1) (by omega);simpa using this) (by simpa using he)]
  rfl
theorem fstN_spec {α:Type} [Inhabited α] {p:α→Bool}:∀ {l:List α} {k:Nat},fstN p l=some k→k<l.length∧(∀i,i<k→p (l.getD i default)=false)∧p (l.getD k default)=true
 | [],k,h=>by simp[fstN]at h
 | o::l,k,h=>by
  rw[fstN]at h
  split at h
  ·rename_i h0
   cases h
   exact ⟨by simp,fun i hi=>by omega,by simpa using h0⟩
  ·rename_i h0
   simp only[Option.map_eq_some_iff]at h
   obtain ⟨j,hj,rfl⟩:=h
   obtain ⟨h1,h2,h3⟩:=fstN_spec hj
   refine ⟨by simp;omega,fun i hi=>?_,by simpa using h3⟩
   cases i with
   | zero=>simpa using h0
   | succ i=>simpa using h2 i (by omega)
theorem fstI_some {α:Type} [Inhabited α] {p:α→Bool} {l:List α} {k:Nat} (hk:k<l.length) (h:∀i,i<k→p (l.getD i default)=false) (he:p (l.getD k default)=true):fstI p l=k:=by rw[fstI,fstN_some hk h he]
theorem fstI_none {α:Type} [Inhabited α] {p:α→Bool} {l:List α} (h:∀i,i<l.length→p (l.getD i default)=false):fstI p l=-1:=by rw[fstI,fstN_none h]
theorem fstI_lt {α:Type} [Inhabited α] (p:α→Bool) (l:List α):-1≤fstI p l∧fstI p l<l.length:=by
 unfold fstI
 split
 ·rename_i i h
  have:=(fstN_spec h).1
  omega
 ·omega
theorem fstI_any {α:Type} (p:α→Bool):∀l:List α,decide (0≤fstI p l)=l.any p
 | []=>by simp[fstI,fstN]
 | a::l=>by
  have ih:=fstI_any p l
  unfold fstI at ih ⊢
  rw[fstN,List.any_cons]
  cases h:p a with
  | true=>simp
  | false =>
   rw[if_neg (by simp),Bool.false_or,←ih]
   cases fstN p l with
   | none=>rfl
   | some k =>
    simp only[Option.map_some]
    rw[decide_eq_true (by omega),decide_eq_true (by omega)]
def qBA1:=PLift.up (An @getD_mapD (An @Z3 @Zh))
theorem amount_c (n:Int):ACall Tryz.prog 104 [] [I n] (B (NO.amountB n)) []:=by
 refine Ac Tryz.func104 ?_
 refine Wk qBA1.1 trivial ?_
 first|exact Fn @Tryz.results104 qBA1.1 trivial|refine Fn @Tryz.results104 qBA1.1 ?_
 rfl
def fairB (o:Ord) (b:Bool) (p:Int):Bool:=NO.amountB p && (if b then decide (p≤o.price) else decide (o.price≤p))
theorem bfair_c (o:Ord) (b:Bool) (p:Int) (r:Bool) (hr:fairB o b p=r):ACall Tryz.prog 264 [] [NO.oD o,B b,I p] (B r) []:=by
 subst hr
 refine Ac Tryz.func264 ?_
 cases b
 ·refine Wk qBA1.1 @amount_c ?_
  refine Cc ?_ ?_<;>intro hc<;>(try simp only[Za,ne_eq]at hc)
  ·contradiction
  ·refine Wk qBA1.1 @amount_c ?_
   first|exact Fn @Tryz.results264 qBA1.1 trivial|refine Fn @Tryz.results264 qBA1.1 ?_
   rfl
 ·refine Wk qBA1.1 @amount_c ?_
  refine Cc ?_ ?_<;>intro hc<;>(try simp only[Za,ne_eq]at hc)
  ·refine Wk qBA1.1 @amount_c ?_
   first|exact Fn @Tryz.results264 qBA1.1 trivial|refine Fn @Tryz.results264 qBA1.1 ?_
   rfl
  ·contradiction
theorem zBA1 {R G:Prop} (k:R) (h:Box R→G:=by
 intro k
 simp (disch:=omega) only[↓reduceIte,Zo,backT,pos,idsB,idsC,nodup,live,makeSliceE,viewE,viewFE,appendUE,appendFE,capFE,copyE,copySrc,clearE,guardB,isNilOp,nilS,withTy,splice,lenE,appendE,sliceE,boundE,indexAddrE,indexE,buildE,fillE,buildSliceE,partsE,builtinE,minE,minI,convE,convHE,appendNE,capE,D.x,id_eq,eq_self,if_true,if_false,ne_eq,implies_true,Nat.reduceAdd,Nat.reduceMul,Nat.reduceSub,Nat.reduceEqDiff,Nat.reduceLT,Nat.reduceLeDiff,reduceCtorEq,getD_mapD,Z3,Zh,Zp,forall_const,Nat.reduceBEq,Int.reduceEq,Int.reduceToNat,bne_self_eq_false,true_and,tyAll]
 all_goals exact k.out):G:=h ⟨k⟩
theorem cloneF_c (l:List Fil) (h:l.length≤1000000):ACall Tryz.prog 86 [] [fsD l] (.e (.c (.o 0 l.length))) [.row 9 (fR l)]:=by
 refine Ac Tryz.func86 ?_
 repeat' (first|((fail_if_success clear hK);change AWp _ _ _ _ _ _;first|refine AWp.seq ?_|refine AWp.text (own:=nO) tG_ok (by kernel_rfl) (fun K hK=>?_)|refine AWp.draw (own:=nO) tG_ok mixed (by kernel_rfl) (by kernel_rfl) (fun K hK=>?_)|refine AWp.skip ?_|refine AWp.ret ?_|refine AWp.exit ?_|refine AWp.label ?_|refine AWp.block ?_)|(revert hK;intro hK;first|(with_reducible refine hK _ _ _ ?_;clear hK K)|(with_reducible refine hK _ _ _ ?_ ?_;(focus kernel_rfl);clear hK K)|((with_reducible change CallS _ _ _ _ _ _);(first|refine CallS.of (amount_c _) ?_))|(with_reducible refine And.intro ?_ ?_)|((first|exact zBA1 trivial|refine zBA1 ?_))|(first|omega|(intro hq;(try simp only[Za,ne_eq,Bool.not_not,Bool.and_true]at hq);first|omega|assumption|(simp_all;done))|(simp_all;done))|(intro (bn:Bool) hbn)))
 refine Cc ?_ ?_<;>intro hc<;>(try simp only[Za,ne_eq]at hc)
 ·repeat' (first|((fail_if_success clear hK);change AWp _ _ _ _ _ _;first|refine AWp.seq ?_|refine AWp.text (own:=nO) tG_ok (by kernel_rfl) (fun K hK=>?_)|refine AWp.draw (own:=nO) tG_ok mixed (by kernel_rfl) (by kernel_rfl) (fun K hK=>?_)|refine AWp.skip ?_|refine AWp.ret ?_|refine AWp.exit ?_|refine AWp.label ?_|refine AWp.block ?_)|(revert hK;intro hK;first|(with_reducible refine hK _ _ _ ?_;clear hK K)|(with_reducible refine hK _ _ _ ?_ ?_;(focus kernel_rfl);clear hK K)|((with_reducible change CallS _ _ _ _ _ _);(first|refine CallS.of (amount_c _) ?_))|(with_reducible refine And.intro ?_ ?_)|((first|exact zBA1 trivial|refine zBA1 ?_))|(first|omega|(intro hq;(try simp only[Za,ne_eq,Bool.not_not,Bool.and_true]at hq);first|omega|assumption|(simp_all;done))|(simp_all;done))|(intro (bn:Bool) hbn)))
  subst hc
  have e:l=[]:=by simpa using hbn rfl
  subst e
  refine Fs @Tryz.results86 ?_
  refine ⟨[],[],[0],by kernel_rfl,?_,?_⟩<;>((first|exact Lw qBA1.1 trivial|refine Lw qBA1.1 ?_);try rfl)
 ·repeat' (first|((fail_if_success clear hK);change AWp _ _ _ _ _ _;first|refine AWp.seq ?_|refine AWp.text (own:=nO) tG_ok (by kernel_rfl) (fun K hK=>?_)|refine AWp.draw (own:=nO) tG_ok mixed (by kernel_rfl) (by kernel_rfl) (fun K hK=>?_)|refine AWp.skip ?_|refine AWp.ret ?_|refine AWp.exit ?_|refine AWp.label ?_|refine AWp.block ?_)|(revert hK;intro hK;first|(with_reducible refine hK _ _ _ ?_;clear hK K)|(with_reducible refine hK _ _ _ ?_ ?_;(focus kernel_rfl);clear hK K)|((with_reducible change CallS _ _ _ _ _ _);(first|refine CallS.of (amount_c _) ?_))|(with_reducible refine And.intro ?_ ?_)|((first|exact zBA1 trivial|refine zBA1 ?_))|(first|omega|(intro hq;(try simp only[Za,ne_eq,Bool.not_not,Bool.and_true]at hq);first|omega|assumption|(simp_all;done))|(simp_all;done))|(intro (bn:Bool) hbn)))
  refine Fs @Tryz.results86 ?_
  refine ⟨[320],[(0,320)],[],by kernel_rfl,?_,?_⟩<;>((first|exact Lw qBA1.1 trivial|refine Lw qBA1.1 ?_);try omega)
theorem cloneS_c (l:List ByteArray) (h:l.length≤1000000):ACall Tryz.prog 87 [] [ssD l] (.e (.c (.o 0 l.length))) [.row 1 (sR l)]:=by
 refine Ac Tryz.func87 ?_
 repeat' (first|((fail_if_success clear hK);change AWp _ _ _ _ _ _;first|refine AWp.seq ?_|refine AWp.text (own:=nO) tG_ok (by kernel_rfl) (fun K hK=>?_)|refine AWp.draw (own:=nO) tG_ok mixed (by kernel_rfl) (by kernel_rfl) (fun K hK=>?_)|refine AWp.skip ?_|refine AWp.ret ?_|refine AWp.exit ?_|refine AWp.label ?_|refine AWp.block ?_)|(revert hK;intro hK;first|(with_reducible refine hK _ _ _ ?_;clear hK K)|(with_reducible refine hK _ _ _ ?_ ?_;(focus kernel_rfl);clear hK K)|((with_reducible change CallS _ _ _ _ _ _);(first|refine CallS.of (amount_c _) ?_))|(with_reducible refine And.intro ?_ ?_)|((first|exact zBA1 trivial|refine zBA1 ?_))|(first|omega|(intro hq;(try simp only[Za,ne_eq,Bool.not_not,Bool.and_true]at hq);first|omega|assumption|(simp_all;done))|(simp_all;done))|(intro (bn:Bool) hbn)))
 refine Cc ?_ ?_<;>intro hc<;>(try simp only[Za,ne_eq]at hc)
 ·repeat' (first|((fail_if_success clear hK);change AWp _ _ _ _ _ _;first|refine AWp.seq ?_|refine AWp.text (own:=nO) tG_ok (by kernel_rfl) (fun K hK=>?_)|refine AWp.draw (own:=nO) tG_ok mixed (by kernel_rfl) (by kernel_rfl) (fun K hK=>?_)|refine AWp.skip ?_|refine AWp.ret ?_|refine AWp.exit ?_|refine AWp.label ?_|refine AWp.block ?_)|(revert hK;intro hK;first|(with_reducible refine hK _ _ _ ?_;clear hK K)|(with_reducible refine hK _ _ _ ?_ ?_;(focus kernel_rfl);clear hK K)|((with_reducible change CallS _ _ _ _ _ _);(first|refine CallS.of (amount_c _) ?_))|(with_reducible refine And.intro ?_ ?_)|((first|exact zBA1 trivial|refine zBA1 ?_))|(first|omega|(intro hq;(try simp only[Za,ne_eq,Bool.not_not,Bool.and_true]at hq);first|omega|assumption|(simp_all;done))|(simp_all;done))|(intro (bn:Bool) hbn)))
  subst hc
  have e:l=[]:=by simpa using hbn rfl
  subst e
  refine Fs @Tryz.results87 ?_
  refine ⟨[],[],[0],by kernel_rfl,?_,?_⟩<;>((first|exact Lw qBA1.1 trivial|refine Lw qBA1.1 ?_);try rfl)
 ·repeat' (first|((fail_if_success clear hK);change AWp _ _ _ _ _ _;first|refine AWp.seq ?_|refine AWp.text (own:=nO) tG_ok (by kernel_rfl) (fun K hK=>?_)|refine AWp.draw (own:=nO) tG_ok mixed (by kernel_rfl) (by kernel_rfl) (fun K hK=>?_)|refine AWp.skip ?_|refine AWp.ret ?_|refine AWp.exit ?_|refine AWp.label ?_|refine AWp.block ?_)|(revert hK;intro hK;first|(with_reducible refine hK _ _ _ ?_;clear hK K)|(with_reducible refine hK _ _ _ ?_ ?_;(focus kernel_rfl);clear hK K)|((with_reducible change CallS _ _ _ _ _ _);(first|refine CallS.of (amount_c _) ?_))|(with_reducible refine And.intro ?_ ?_)|((first|exact zBA1 trivial|refine zBA1 ?_))|(first|omega|(intro hq;(try simp only[Za,ne_eq,Bool.not_not,Bool.and_true]at hq);first|omega|assumption|(simp_all;done))|(simp_all;done))|(intro (bn:Bool) hbn)))
  refine Fs @Tryz.results87 ?_
  refine ⟨[320],[(0,320)],[],by kernel_rfl,?_,?_⟩<;>((first|exact Lw qBA1.1 trivial|refine Lw qBA1.1 ?_);try omega)
abbrev eqB (s x:ByteArray):Bool:=s.data.toList == x.data.toList
theorem indexS_c (l:List ByteArray) (s:ByteArray) (hl:l.length≤1000000):ACall Tryz.prog 225 [] [ssD l,StD s] (I (fstI (eqB s) l)) []:=by
 refine Ac Tryz.func225 ?_
 refine Wk qBA1.1 @amount_c ?_
 refine AWp.loop (fun k:Nat=>mkSt [(0,ssD l),(1,StD s),(7,I l.length),(8,I k)] [] 0) (fun k=>k≤l.length∧∀i,i<k→eqB s (l.getD i default)=false) (fun k=>l.length - k) 0 ⟨Nat.zero_le _,fun i hi=>by omega⟩ (by refine Le.of (τ:=[]) (ν:=[]) (by kernel_rfl) ?_ ?_<;>((first|exact Lw qBA1.1 trivial|refine Lw qBA1.1 ?_);try omega)) fun k hk=>?_
 obtain ⟨hk,ho⟩:=hk
 refine Wk qBA1.1 @amount_c ?_
 refine Cc ?_ ?_<;>intro hc<;>(try simp only[Za,ne_eq]at hc)
 ·refine Wk qBA1.1 @amount_c ?_
  refine Cc ?_ ?_<;>intro hc<;>(try simp only[Za,ne_eq]at hc)
  ·refine Wk qBA1.1 @amount_c ?_
   have e:fstI (eqB s) l=k:=fstI_some (by omega) ho (beq_iff_eq.2 hc)
   rw[e]
   first|exact Fn @Tryz.results225 qBA1.1 trivial|refine Fn @Tryz.results225 qBA1.1 ?_
  ·refine Wk qBA1.1 @amount_c ?_
   refine Zb (k+1) ⟨by omega,fun i hi=>?_⟩ (by omega) (by refine Le.of (τ:=[]) (ν:=[]) (by kernel_rfl) ?_ ?_<;>((first|exact Lw qBA1.1 trivial|refine Lw qBA1.1 ?_);try omega))
   by_cases e:i=k
   ·subst e;simpa using hc
   ·exact ho i (by omega)
 ·refine Wk qBA1.1 @amount_c ?_
  have e:fstI (eqB s) l=-1:=fstI_none fun i hi=>ho i (by omega)
  rw[e]
  first|exact Fn @Tryz.results225 qBA1.1 trivial|refine Fn @Tryz.results225 qBA1.1 ?_
theorem containsS_c (l:List ByteArray) (s:ByteArray) (hl:l.length≤1000000) (r:Bool) (hr:l.any (eqB s)=r):ACall Tryz.prog 182 [] [ssD l,StD s] (B r) []:=by
 subst hr
 rw[←fstI_any]
 refine Ac Tryz.func182 ?_
 refine Wk qBA1.1 @indexS_c ?_
 first|exact Fn @Tryz.results182 qBA1.1 trivial|refine Fn @Tryz.results182 qBA1.1 ?_
theorem amend1_c (f:Fil) (x:Exe):ACall Tryz.prog 263 [] [fD f,.q [vS x.id,vS x.ref,vS x.ord,vS x.acc,vS x.sym,vI x.kind,vB x.buy,vI x.qty,vI x.price,vI x.time]] (B (eqB f.id x.ref)) []:=by
 refine Ac Tryz.func263 ?_
 refine Wk qBA1.1 @indexS_c ?_
 first|exact Fn @Tryz.results263 qBA1.1 trivial|refine Fn @Tryz.results263 qBA1.1 ?_
abbrev xcap (x:Exe):List V:=[vS x.id,vS x.ref,vS x.ord,vS x.acc,vS x.sym,vI x.kind,vB x.buy,vI x.qty,vI x.price,vI x.time]
def refI (l:List Fil) (x:Exe):Int:=fstI (fun f:Fil=>eqB f.id x.ref) l
theorem indexF_c (l:List Fil) (x:Exe) (hl:l.length≤1000000):ACall Tryz.prog 262 [] [fsD l,.e (.c (.v (.f 263 [xcap x])))] (I (refI l x)) []:=by
 refine Ac Tryz.func262 ?_
 refine Wk qBA1.1 (fun u1=>amend1_c u1 x) ?_
 refine AWp.loop (fun k:Nat=>mkSt [(0,fsD l),(1,.e (.c (.v (.f 263 [xcap x])))),(7,I l.length),(8,I k)] [] 0) (fun k=>k≤l.length∧∀i,i<k→eqB (l.getD i default).id x.ref=false) (fun k=>l.length - k) 0 ⟨Nat.zero_le _,fun i hi=>by omega⟩ (by refine Le.of (τ:=[]) (ν:=[]) (by kernel_rfl) ?_ ?_<;>((first|exact Lw qBA1.1 trivial|refine Lw qBA1.1 ?_);try omega)) fun k hk=>?_
 obtain ⟨hk,ho⟩:=hk
 refine Wk qBA1.1 (fun u1=>amend1_c u1 x) ?_
 refine Cc ?_ ?_<;>intro hc<;>(try simp only[Za,ne_eq]at hc)
 ·refine Wk qBA1.1 (fun u1=>amend1_c u1 x) ?_
  refine Cc ?_ ?_<;>intro hc<;>(try simp only[Za,ne_eq]at hc)
  ·refine Wk qBA1.1 (fun u1=>amend1_c u1 x) ?_
   have e:refI l x=k:=fstI_some (by omega) ho (beq_iff_eq.2 hc)
   rw[e]
   first|exact Fn @Tryz.results262 qBA1.1 trivial|refine Fn @Tryz.results262 qBA1.1 ?_
  ·refine Wk qBA1.1 (fun u1=>amend1_c u1 x) ?_
   refine Zb (k+1) ⟨by omega,fun i hi=>?_⟩ (by omega) (by refine Le.of (τ:=[]) (ν:=[]) (by kernel_rfl) ?_ ?_<;>((first|exact Lw qBA1.1 trivial|refine Lw qBA1.1 ?_);try omega))
   by_cases e:i=k
   ·subst e;simpa using hc
   ·exact ho i (by omega)
 ·refine Wk qBA1.1 (fun u1=>amend1_c u1 x) ?_
  have e:refI l x=-1:=fstI_none fun i hi=>ho i (by omega)
  rw[e]
  first|exact Fn @Tryz.results262 qBA1.1 trivial|refine Fn @Tryz.results262 qBA1.1 ?_
namespace NA
theorem Z0 (a b:ByteArray):binS .gtr a b=.ret (.e (.c (.v (.x (.bool (!(Op.bytesLess a.data.toList b.data.toList || a.data.toList == b.data.toList)))))),[]):=rfl
abbrev SD (s:ByteArray):D:=.e (.c (.v (.x (.string s))))
theorem isNaN_c (s:ByteArray):ACall Tryz.prog 109 [] [SD s] (B false) []:=by
 have hcl:True:=trivial
 refine Ac Tryz.func109 ?_
 refine Wk (An @hcl @Z0) trivial ?_
 first|exact Fn @Tryz.results109 (An @hcl @Z0) trivial|refine Fn @Tryz.results109 (An @hcl @Z0) ?_
def cmpS (a b:ByteArray):Int:=if Op.bytesLess a.data.toList b.data.toList=true then -1 else if (!(Op.bytesLess a.data.toList b.data.toList || a.data.toList == b.data.toList))=true then 1 else 0
theorem cmpS_c (a b:ByteArray):ACall Tryz.prog 39 [] [SD a,SD b] (I (cmpS a b)) []:=by
 have hcl:True:=trivial
 refine Ac Tryz.func39 ?_
 refine Wk (An @hcl @Z0) @isNaN_c ?_
 refine Cc ?_ ?_<;>intro hc<;>(try simp only[Za,ne_eq]at hc)
 ·contradiction
 ·refine Wk (An @hcl @Z0) @isNaN_c ?_
  refine Cc ?_ ?_<;>intro hc<;>(try simp only[Za,ne_eq]at hc)
  ·contradiction
  ·refine Wk (An @hcl @Z0) @isNaN_c ?_
   (try change AWp _ _ _ _ _ _);refine AWp.cond (by exact rfl) (fun hc=>?_) (fun hc=>?_)
   ·refine Wk (An @hcl @Z0) @isNaN_c ?_
    first|exact Fn @Tryz.results39 (An @hcl @Z0) trivial|refine Fn @Tryz.results39 (An @hcl @Z0) ?_
    rw[cmpS,if_pos hc]
   ·refine Wk (An @hcl @Z0) @isNaN_c ?_
    (try change AWp _ _ _ _ _ _);refine AWp.cond (by exact rfl) (fun hc2=>?_) (fun hc2=>?_)
    ·refine Wk (An @hcl @Z0) @isNaN_c ?_
     first|exact Fn @Tryz.results39 (An @hcl @Z0) trivial|refine Fn @Tryz.results39 (An @hcl @Z0) ?_
     rw[cmpS,if_neg (by rw[hc];decide),if_pos hc2]
    ·refine Wk (An @hcl @Z0) @isNaN_c ?_
     first|exact Fn @Tryz.results39 (An @hcl @Z0) trivial|refine Fn @Tryz.results39 (An @hcl @Z0) ?_
     rw[cmpS,if_neg (by rw[hc];decide),if_neg (by rw[hc2];decide)]
theorem bl_irr (a:List UInt8):Op.bytesLess a a=false:=by
 induction a with
 | nil=>rfl
 | cons x xs ih=>simp[Op.bytesLess,ih]
theorem bl_trans (a b c:List UInt8) (h1:Op.bytesLess a b=true) (h2:Op.bytesLess b c=true):Op.bytesLess a c=true:=by
 induction a generalizing b c with
 | nil =>
  cases b with
  | nil=>exact h2
  | cons y ys =>
   cases c with
   | nil=>simp[Op.bytesLess]at h2
   | cons z zs=>simp[Op.bytesLess]
 | cons x xs ih =>
  cases b with
  | nil=>simp[Op.bytesLess]at h1
  | cons y ys =>
   cases c with
   | nil=>simp[Op.bytesLess]at h2
   | cons z zs =>
    simp only[Op.bytesLess,Bool.or_eq_true,Bool.and_eq_true,decide_eq_true_eq,beq_iff_eq]at h1 h2 ⊢
    rcases h1 with h1|⟨rfl,h1⟩
    ·rcases h2 with h2|⟨rfl,h2⟩
     ·exact .inl (UInt8.lt_trans h1 h2)
     ·exact .inl h1
    ·rcases h2 with h2|⟨rfl,h2⟩
     ·exact .inl h2
     ·exact .inr ⟨rfl,ih _ _ h1 h2⟩
theorem bl_total (a b:List UInt8):Op.bytesLess a b=true∨a=b∨Op.bytesLess b a=true:=by
 induction a generalizing b with
 | nil=>cases b with
  | nil=>exact .inr (.inl rfl)
  | cons y ys=>exact .inl (by simp[Op.bytesLess])
 | cons x xs ih=>cases b with
  | nil=>exact .inr (.inr (by simp[Op.bytesLess]))
  | cons y ys =>
   simp only[Op.bytesLess,Bool.or_eq_true,Bool.and_eq_true,decide_eq_true_eq,beq_iff_eq]
   by_cases hxy:x=y
   ·subst hxy
    rcases ih ys with h|rfl|h
    ·exact .inl (.inr ⟨rfl,h⟩)
    ·exact .inr (.inl rfl)
    ·exact .inr (.inr (.inr ⟨rfl,h⟩))
   ·rcases UInt8.lt_or_lt_of_ne hxy with h|h
    ·exact .inl (.inl h)
    ·exact .inr (.inr (.inl h))
theorem bl_asym (a b:List UInt8) (h:Op.bytesLess a b=true):Op.bytesLess b a=false:=by
 cases hb:Op.bytesLess b a with
 | false=>rfl
 | true =>
  have:=bl_trans a b a h hb
  rw[bl_irr]at this
  cases this
theorem ba_eq {a b:ByteArray} (h:a.data.toList=b.data.toList):a=b:=by
 cases a with|mk a=>cases b with|mk b=>cases a;cases b;simp_all
theorem cmpS_lt {a b:ByteArray}:cmpS a b<0↔Op.bytesLess a.data.toList b.data.toList=true:=by
 unfold cmpS
 by_cases h:Op.bytesLess a.data.toList b.data.toList=true
 ·rw[if_pos h];simp[h]
 ·rw[if_neg h];split<;>simp[h]
theorem Z6 {a b:ByteArray}:cmpS a b=0↔a=b:=by
 unfold cmpS
 constructor
 ·intro h
  split at h
  ·cases h
  ·rename_i h1
   split at h
   ·cases h
   ·rename_i h2
    simp only[Bool.not_eq_true',Bool.not_eq_false,Bool.or_eq_true,beq_iff_eq]at h2
    rcases h2 with h2|h2
    ·exact absurd h2 h1
    ·exact ba_eq h2
 ·rintro rfl
  rw[if_neg (by rw[bl_irr];decide),if_neg (by simp)]
theorem cmpS_cases (a b:ByteArray):(cmpS a b=-1∧cmpS b a=1)∨(cmpS a b=0∧a=b)∨(cmpS a b=1∧cmpS b a=-1):=by
 rcases bl_total a.data.toList b.data.toList with h|h|h
 ·left
  have h2:=bl_asym _ _ h
  unfold cmpS
  rw[if_pos h,if_neg (by rw[h2];decide),if_pos]
  ·exact ⟨rfl,rfl⟩
  ·rw[h2,Bool.false_or,Bool.not_eq_true',beq_eq_false_iff_ne]
   intro e;rw[e,bl_irr]at h;cases h
 ·have:=ba_eq h
  exact .inr (.inl ⟨Z6.2 this,this⟩)
 ·right;right
  have h2:=bl_asym _ _ h
  unfold cmpS
  rw[if_neg (by rw[h2];decide),if_pos h,if_pos]
  ·exact ⟨rfl,rfl⟩
  ·rw[h2,Bool.false_or,Bool.not_eq_true',beq_eq_false_iff_ne]
   intro e;rw[e,bl_irr]at h;cases h
abbrev fD (f:Nat):D:=.e (.c (.v (.x (.func (.func f) #[] #[]))))
theorem evO_f (En:Nat→D) (f:Nat):evO En (.func f)=.e (.c (.v (.x (.func (.func f) #[] #[])))):=rfl
theorem mid_eq (lo hi:Nat) (h:lo+hi≤4000000):IntKind.i64.wrap ((IntKind.u64.wrap ((lo:Int)+(hi:Int))).fdiv (2 ^ min 1 IntKind.u64.bits))=(((lo+hi) / 2:Nat):Int):=by
 have:(2:Int) ^ (min 1 IntKind.u64.bits)=2:=by decide
 rw[this,wrap_u64 _ (by omega) (by omega),Int.fdiv_eq_ediv_of_nonneg _ (by omega),Zn _ (by omega) (by omega)]
 omega
end NA
def twB (l:List ByteArray):Bool:=(List.range l.length).any fun i=>decide (1≤i) && ((l.getD i default).data.toList == (l.getD (i - 1) default).data.toList)
def qBB1:=PLift.up (An @Zh @NA.Z0)
theorem twice_c (l:List ByteArray) (hl:l.length≤1000000) (r:Bool) (hr:twB l=r):ACall Tryz.prog 103 [] [ssD l] (B r) []:=by
 refine Ac Tryz.func103 ?_
 refine Wk qBB1.1 trivial ?_
 refine AWp.loop (fun k:Nat=>mkSt [(0,ssD l),(3,I k)] [] 0) (fun k=>1≤k∧∀i,1≤i→i<k→(l.getD i default).data.toList≠(l.getD (i - 1) default).data.toList) (fun k=>l.length - k) 1 ⟨Nat.le_refl _,fun i h1 h2=>by omega⟩ (by refine Le.of (τ:=[]) (ν:=[]) (by kernel_rfl) ?_ ?_<;>((first|exact Lw qBB1.1 trivial|refine Lw qBB1.1 ?_);try omega)) fun k hk=>?_
 obtain ⟨hk,ho⟩:=hk
 refine Wk qBB1.1 trivial ?_
 refine Cc ?_ ?_<;>intro hc<;>(try simp only[Za,ne_eq]at hc)
 ·refine Wk qBB1.1 trivial ?_
  refine Cc ?_ ?_<;>intro hc<;>(try simp only[Za,ne_eq]at hc)
  ·have e:r=true:=by
    rw[←hr,twB,List.any_eq_true]
    refine ⟨k,List.mem_range.2 (by omega),?_⟩
    have e1:((k:Int) - 1).toNat=k - 1:=by omega
    rw[decide_eq_true hk,Bool.true_and,beq_iff_eq]
    simpa[e1] using hc
   subst e
   refine Wk qBB1.1 trivial ?_
   first|exact Fn @Tryz.results103 qBB1.1 trivial|refine Fn @Tryz.results103 qBB1.1 ?_
  ·refine Wk qBB1.1 trivial ?_
   refine Zb (k+1) ⟨by omega,fun i h1 h2=>?_⟩ (by omega) (by refine Le.of (τ:=[]) (ν:=[]) (by kernel_rfl) ?_ ?_<;>((first|exact Lw qBB1.1 trivial|refine Lw qBB1.1 ?_);try omega))
   by_cases e:i=k
   ·subst e
    have e1:((i:Int) - 1).toNat=i - 1:=by omega
    simpa[e1] using hc
   ·exact ho i h1 (by omega)
 ·have e:r=false:=by
   rw[←hr,twB,List.any_eq_false]
   intro i hi
   have hi:=List.mem_range.1 hi
   rw[Bool.and_eq_true,decide_eq_true_eq,beq_iff_eq]
   rintro ⟨h1,h2⟩
   exact ho i h1 (by omega) h2
  subst e
  refine Wk qBB1.1 trivial ?_
  first|exact Fn @Tryz.results103 qBB1.1 trivial|refine Fn @Tryz.results103 qBB1.1 ?_
theorem nanS_c (s:ByteArray):ACall Tryz.prog 161 [] [StD s] (B false) []:=by
 refine Ac Tryz.func161 ?_
 refine Wk qBB1.1 trivial ?_
 first|exact Fn @Tryz.results161 qBB1.1 trivial|refine Fn @Tryz.results161 qBB1.1 ?_
def ltB (a b:ByteArray):Bool:=Op.bytesLess a.data.toList b.data.toList
theorem lessS_c (a b:ByteArray):ACall Tryz.prog 160 [] [StD a,StD b] (B (ltB a b)) []:=by
 refine Ac Tryz.func160 ?_
 refine Wk qBB1.1 @NA.isNaN_c ?_
 first|exact Fn @Tryz.results160 qBB1.1 trivial|refine Fn @Tryz.results160 qBB1.1 ?_
 rfl
def qBB2:=PLift.up (An @lessS_c @nanS_c)
theorem searchS_c (l:List ByteArray) (x:ByteArray) (hl:l.length≤1000000) (n:Nat) (hn:n≤l.length) (h1:∀j,j<n→ltB (l.getD j default) x=true) (h2:∀j,n≤j→j<l.length→ltB (l.getD j default) x=false) :
 ACall Tryz.prog 105 [] [ssD l,StD x] (.t [.c (.v (vI n)),.c (.v (.x (.bool (decide (n<l.length) && eqB (l.getD n default) x))))]) []:=by
 have hmid:True:=trivial
 refine Ac Tryz.func105 ?_
 refine Wk (An @hmid @Zh) qBB2.1 ?_
 refine AWp.loop (fun s:Nat×Nat=>mkSt [(0,ssD l),(1,StD x),(6,I l.length),(7,I s.1),(8,I s.2)] [] 0) (fun s=>s.1≤n∧n≤s.2∧s.2≤l.length) (fun s=>s.2 - s.1) (0,l.length) ⟨Nat.zero_le _,hn,Nat.le_refl _⟩ (by refine Le.of (τ:=[]) (ν:=[]) (by kernel_rfl) ?_ ?_<;>((refine Lv (An @hmid @Zh) fun eE=>?_;first|exact Lw (@Box.out _ eE) trivial|refine Lw (@Box.out _ eE) ?_);try rfl)) fun s hi=>?_
 obtain ⟨lo,hi'⟩:=s
 obtain ⟨ha,hb,hcc⟩:=hi
 dsimp only at ha hb hcc ⊢
 refine Wk (An @hmid @Zh) qBB2.1 ?_
 refine Cc ?_ ?_<;>intro hc<;>(try simp only[Za,ne_eq]at hc)
 ·have hmid:=NA.mid_eq lo hi' (by omega)
  have hm1:lo≤(lo+hi') / 2:=by omega
  have hm2:(lo+hi') / 2<hi':=by omega
  generalize (lo+hi') / 2=m at hmid hm1 hm2
  refine Wk (An @hmid @Zh) qBB2.1 ?_
  refine Cc ?_ ?_<;>intro hc<;>(try simp only[Za,ne_eq]at hc)
  ·have hlt:ltB (l.getD m default) x=true:=hc
   have hmn:m<n:=by
    rcases Nat.lt_or_ge m n with h|h
    ·exact h
    ·rw[h2 m h (by omega)]at hlt;cases hlt
   refine Wk (An @hmid @Zh) qBB2.1 ?_
   refine Zb (m+1,hi') ⟨by dsimp only;omega,by dsimp only;omega,by dsimp only;omega⟩ (by dsimp only;omega) (by refine Le.of (τ:=[]) (ν:=[]) (by kernel_rfl) ?_ ?_<;>((refine Lv (An @hmid @Zh) fun eE=>?_;first|exact Lw (@Box.out _ eE) trivial|refine Lw (@Box.out _ eE) ?_);try omega))
  ·have hge:ltB (l.getD m default) x=false:=hc
   have hmn:n≤m:=by
    rcases Nat.lt_or_ge m n with h|h
    ·rw[h1 m h]at hge;cases hge
    ·exact h
   refine Wk (An @hmid @Zh) qBB2.1 ?_
   refine Zb (lo,m) ⟨by dsimp only;omega,by dsimp only;omega,by dsimp only;omega⟩ (by dsimp only;omega) (by refine Le.of (τ:=[]) (ν:=[]) (by kernel_rfl) ?_ ?_<;>((refine Lv (An @hmid @Zh) fun eE=>?_;first|exact Lw (@Box.out _ eE) trivial|refine Lw (@Box.out _ eE) ?_);try omega))
 ·obtain rfl:lo=n:=by omega
  have hmid:True:=trivial
  refine Wk (An @hmid @Zh) qBB2.1 ?_
  first|exact Fn @Tryz.results105 (An @hmid @Zh) trivial|refine Fn @Tryz.results105 (An @hmid @Zh) ?_
  show (decide (lo<l.length) && eqB (l.getD lo default) x)=(decide ((lo:Int)<(l.length:Int)) && ((l.getD lo default).data.toList == x.data.toList))
  rw[Bool.eq_iff_iff]
  simp only[Bool.and_eq_true,decide_eq_true_eq,beq_iff_eq,Int.ofNat_lt]
section
variable {own0 mt:Nat→Prop} {w0 w w':World} {ρ:Nat→Option Pl} {H:Nat→Option Blk}
theorem setBlk_self {w:World} {b:Nat} {o:Obj} (h:w.heap[b]?=some o):setBlk w b o=w:=by
 unfold setBlk
 have:w.heap.setIfInBounds b o=w.heap:=by
  apply Array.ext_getElem?
  intro i
  by_cases hi:b=i
  ·subst hi
   have hb:b<w.heap.size:=(Array.getElem?_eq_some_iff.1 h).1
   rw[Array.getElem?_setIfInBounds_self_of_lt hb,h]
  ·rw[Array.getElem?_setIfInBounds_ne hi]
 rw[this]
theorem mem_put (hm:Mem own0 mt w0 ρ H w) {i b base c:Nat} (hp:ρ i=some (.blk b base c)) (hl:live (H i)=true) {blk:Blk} (hl':live (some blk)=true) {vs:Array Value} {T:TypeId} {fr:Nat×Nat}
 (os:w'.os=w.os) (tape:w'.tape=w.tape) (output:w'.output=w.output) (size:w.heap.size≤w'.heap.size) (hk:∀k,k<w.heap.size→k≠b→w'.heap[k]?=w.heap[k]?)
 (hb:w'.heap[b]?=some (.cells vs T fr)) (hr:RepB w' (Ow own0 ρ H) ρ i blk):Mem own0 mt w0 ρ (upd H i (some blk)) w'∧(∀x,Ow own0 ρ (upd H i (some blk)) x↔Ow own0 ρ H x):=by
 have hbl:b<w.heap.size:=(hm.fresh _ _ _ _ hp).2.1
 obtain ⟨o,ho⟩:∃o,w.heap[b]?=some o:=⟨w.heap[b],Array.getElem?_eq_getElem hbl⟩
 have hbl':b<w'.heap.size:=Nat.lt_of_lt_of_le hbl size
 have s:KeepM (fun _=>False) w (setBlk w' b o):=⟨os,tape,output,by simpa using size,fun k hkl _=>by
  by_cases e:k=b
  ·subst e;rw[Yi hbl',ho]
  ·rw[Yz e];exact hk k hkl e⟩
 have hm1:=(Step.grow hm s).mem
 have e:setBlk (setBlk w' b o) b (.cells vs T fr)=w':=by rw[setBlk_setBlk,setBlk_self hb]
 have:=hm1.write hp hl hl' vs T fr (by rw[e];exact hr)
 rw[e]at this
 exact this
end
end Eng
end Go.Proofs.YtgenjpingdkmgaaGreatDoor
namespace Go.Proofs.YtgenjpingdkmgaaGreatDoor
def layS_ren:Go.Shelf.Ren:=⟨fun|190=>106|125=>108|258=>162|128=>171|129=>172|302=>209|303=>210|304=>211|305=>212|306=>213|307=>214|308=>160|309=>215|310=>216|333=>256|329=>218|330=>219|334=>257|335=>258|336=>109|344=>293|n=>n,fun|31=>56|9=>9|3=>3|46=>192|0=>0|51=>246|53=>209|4=>4|183=>256|182=>255|131=>187|5=>5|218=>313|222=>317|228=>352|229=>151|n=>n,fun|n=>n⟩
theorem layS:Go.Proofs.Lays.n190 Tryz.prog layS_ren where
 mixed:=by kernel_rfl
 f125:=Tryz.func108.trans (congrArg some (by kernel_rfl))
 f128:=Tryz.func171.trans (congrArg some (by kernel_rfl))
 f129:=Tryz.func172.trans (congrArg some (by kernel_rfl))
 f190:=Tryz.func106.trans (congrArg some (by kernel_rfl))
 f258:=Tryz.func162.trans (congrArg some (by kernel_rfl))
 f302:=Tryz.func209.trans (congrArg some (by kernel_rfl))
 f303:=Tryz.func210.trans (congrArg some (by kernel_rfl))
 f304:=Tryz.func211.trans (congrArg some (by kernel_rfl))
 f305:=Tryz.func212.trans (congrArg some (by kernel_rfl))
 f306:=Tryz.func213.trans (congrArg some (by kernel_rfl))
 f307:=Tryz.func214.trans (congrArg some (by kernel_rfl))
 f308:=Tryz.func160.trans (congrArg some (by kernel_rfl))
 f309:=Tryz.func215.trans (congrArg some (by kernel_rfl))
 f310:=Tryz.func216.trans (congrArg some (by kernel_rfl))
 f329:=Tryz.func218.trans (congrArg some (by kernel_rfl))
 f330:=Tryz.func219.trans (congrArg some (by kernel_rfl))
 f333:=Tryz.func256.trans (congrArg some (by kernel_rfl))
 f334:=Tryz.func257.trans (congrArg some (by kernel_rfl))
 f335:=Tryz.func258.trans (congrArg some (by kernel_rfl))
 f336:=Tryz.func109.trans (congrArg some (by kernel_rfl))
 f344:=Tryz.func293.trans (congrArg some (by kernel_rfl))
 t0:=Tryz.underlying0
 a0:=Tryz.isAgg0
 z0:=Tryz.sizeOf0
 v0:=Tryz.zeroValue0
 t3:=Tryz.underlying3
 a3:=Tryz.isAgg3
 z3:=Tryz.sizeOf3
 v3:=Tryz.zeroValue3
 t4:=Tryz.underlying4
 a4:=Tryz.isAgg4
 z4:=Tryz.sizeOf4
 v4:=Tryz.zeroValue4
 t5:=Tryz.underlying5
 a5:=Tryz.isAgg5
 z5:=Tryz.sizeOf5
 v5:=Tryz.zeroValue5
 t9:=Tryz.underlying9
 a9:=Tryz.isAgg9
 z9:=Tryz.sizeOf9
 v9:=Tryz.zeroValue9
 t31:=Tryz.underlying56
 a31:=Tryz.isAgg56
 z31:=Tryz.sizeOf56
 v31:=Tryz.zeroValue56
 t46:=Tryz.underlying192
 a46:=Tryz.isAgg192
 z46:=Tryz.sizeOf192
 v46:=Tryz.zeroValue192
 t51:=Tryz.underlying246
 a51:=Tryz.isAgg246
 z51:=Tryz.sizeOf246
 v51:=Tryz.zeroValue246
 t53:=Tryz.underlying209
 a53:=Tryz.isAgg209
 z53:=Tryz.sizeOf209
 v53:=Tryz.zeroValue209
 t131:=Tryz.underlying187
 a131:=Tryz.isAgg187
 z131:=Tryz.sizeOf187
 v131:=Tryz.zeroValue187
 t182:=Tryz.underlying255
 a182:=Tryz.isAgg255
 z182:=Tryz.sizeOf255
 v182:=Tryz.zeroValue255
 t183:=Tryz.underlying256
 a183:=Tryz.isAgg256
 z183:=Tryz.sizeOf256
 v183:=Tryz.zeroValue256
 t218:=Tryz.underlying313
 a218:=Tryz.isAgg313
 z218:=Tryz.sizeOf313
 v218:=Tryz.zeroValue313
 t222:=Tryz.underlying317
 a222:=Tryz.isAgg317
 z222:=Tryz.sizeOf317
 v222:=Tryz.zeroValue317
 t228:=Tryz.underlying352
 a228:=Tryz.isAgg352
 z228:=Tryz.sizeOf352
 v228:=Tryz.zeroValue352
 t229:=Tryz.underlying151
 a229:=Tryz.isAgg151
 z229:=Tryz.sizeOf151
 v229:=Tryz.zeroValue151
def Z4:Go.Shelf.Ren:=⟨fun|6=>101|8=>158|9=>106|11=>208|13=>108|12=>162|23=>171|24=>172|14=>209|15=>210|16=>211|17=>212|18=>213|19=>214|20=>160|21=>215|22=>216|25=>256|26=>218|27=>219|28=>257|29=>258|30=>109|31=>293|n=>n,fun|26=>9|28=>184|24=>56|0=>0|3=>3|37=>192|48=>246|50=>209|4=>4|40=>256|39=>255|45=>187|5=>5|9=>9|51=>313|55=>317|57=>352|58=>151|33=>132|n=>n,fun|n=>n⟩
theorem layZ:Go.Proofs.SlLaysZ.n6 Tryz.prog Z4 where
 mixed:=by kernel_rfl
 f6:=⟨ "slices.Sorted[string]",by decide,Tryz.func101.trans (congrArg some (by kernel_rfl))⟩
 f8:=⟨ "slices.Collect[string]",by decide,Tryz.func158.trans (congrArg some (by kernel_rfl))⟩
 f11:=⟨ "slices.AppendSeq[[]string,string]",by decide,Tryz.func208.trans (congrArg some (by kernel_rfl))⟩
 t0:=Tryz.underlying0
 a0:=Tryz.isAgg0
 z0:=Tryz.sizeOf0
 v0:=Tryz.zeroValue0
 t24:=Tryz.underlying56
 a24:=Tryz.isAgg56
 z24:=Tryz.sizeOf56
 v24:=Tryz.zeroValue56
 t26:=Tryz.underlying9
 a26:=Tryz.isAgg9
 z26:=Tryz.sizeOf9
 v26:=Tryz.zeroValue9
 t28:=Tryz.underlying184
 a28:=Tryz.isAgg184
 z28:=Tryz.sizeOf184
 v28:=Tryz.zeroValue184
 i26:=by kernel_rfl
namespace Eng
open Go.RowKit Go.Maps Go.Sort Go.Shelf
variable {P:Program}
theorem acall_raw2 {f:FuncId} {args:List D} {val:D} (hp:Plain P f) (h:∀(w:World) (vs:List Value) (ow:Nat→Prop) (ρ:Nat→Option Pl),Glob (fun _=>False) w→All2 (RepD w ow ρ) args vs →
 Calls P f vs.toArray w fun e w'=>∃u,e=.returned u∧Below w.heap.size w w'∧∀ow' ρ',(∀b,ow' b→b<w.heap.size)→RepD w' ow' ρ' val u):ACall P f [] args val [] :=
 ⟨hp,fun own0 w ρ vs hm ha=>(h w vs _ _ (fun x hx=>⟨(hm.glob x hx).1,fun e=>e,(hm.glob x hx).2.2⟩) ha).mono fun e w' ⟨u,he,hb,hd⟩ =>
  ⟨u,ρ,he,.refl _,hd _ _ (fun b hb=>by
   rcases hb with h|⟨i,_,_,_,h⟩
   ·exact hm.own0 b h
   ·simp[live]at h),(Step.grow hm ⟨hb.os,hb.tape,hb.output,hb.size,fun b h _=>hb.block b h⟩).mem⟩⟩
def sortS (l:List ByteArray):List ByteArray:=((l.map fun s=>s.data.toList).mergeSort fun x y=>decide (x≤y)).map fun d=>⟨d.toArray⟩
theorem Yx (l:List ByteArray):(sortS l).length=l.length:=by rw[sortS,List.length_map,List.length_mergeSort,List.length_map]
theorem evO_nilF (En:Nat→D):evO En (.const .nilFunc)=.e (.c (.v (.x .nilFunc))):=rfl
theorem values_c (l:List ByteArray):ACall Tryz.prog 102 [] [ssD l] (.e (.c (.v (.f 159 [[ssV l]])))) []:=by
 refine Ac Tryz.func102 ?_
 refine Wk @evO_nilF trivial ?_
 first|exact Fn @Tryz.results102 @evO_nilF trivial|refine Fn @Tryz.results102 @evO_nilF ?_
set_option maxHeartbeats 2000000 in
theorem vals1_in (n:Nat) (hn:1≤n) (l pb po n₀ len cap:Nat) (a:Option Addr) (z:Nat→List UInt8) (hbig:len≤140737488355328) (w0:World) (J:List (List UInt8)→World→Prop) (hJ:∀s W,J s W→Below n₀ w0 W)
 (hY:∀pre x W,J pre W→pre.length<len→YieldAt Fence.wide (n - 1) Tryz.prog l #[encStr x] W fun e W'=>e=.returned (.bool true)∧J (pre++[x]) W'∧KeepsWalks W W')
 (W:World) (hp:W.cell? ⟨pb,po,none⟩=some (.slice a len cap)) (hc:0<len→∃b off,a=some ⟨b,off,none⟩∧b<n₀∧∀j,j<len→w0.cell? ⟨b,off+j,none⟩=some (encStr (z j))) (h0:J [] W) :
 CallsIn Fence.wide n Tryz.prog 159 #[.func (.yield l) #[] #[],.pointer (some ⟨pb,po,none⟩)] W fun e W'=>(∃v,e=.returned v)∧J ((List.range len).map z) W':=by
 refine callsIn_of_wp Tryz.func159 rfl trivial ?_ rfl
 simp only[Tryz.ntmps159,List.size_toArray,List.length_cons,List.length_nil,Nat.reduceAdd,Nat.reduceSub,Array.replicate_succ,Array.replicate_zero,List.push_toArray,List.append_toArray,List.nil_append,List.cons_append]
 gi_wp2
 gi_loopw [7] (fun i wr=>∃k:Nat,k≤len∧i=.int .i64 k∧J ((List.range k).map z) wr) (fun i _=>len - (intOf i).toNat)
 case atStart=>exact ⟨0,Nat.zero_le _,rfl,h0⟩
 case round =>
  obtain ⟨k,hk,rfl,hJs⟩:=hrel
  by_cases hlt:k<len
  ·obtain ⟨b,off,rfl,hbn,hcell⟩:=hc (by omega)
   have hcx:wr.cell? ⟨b,off+k,none⟩=some (encStr (z k)):=((hJ _ _ hJs).cell (p:=⟨b,off+k,none⟩) hbn).trans (hcell k hlt)
   obtain ⟨fn,tmps,assign,body,hy,hR⟩:=hY _ (z k) wr hJs (by simpa using hlt)
   gi_wp2
   refine hR.mono ?_
   rintro e W3 ⟨rfl,hJ3,hk3⟩
   gi_wp2
   go_roundw
   case rel =>
    have hw:wrap64 ((k:Int)+1)=k+1:=by unfold wrap64;omega
    refine ⟨k+1,by omega,by simp[hw],?_⟩
    rw[List.range_succ,List.map_append]
    exact hJ3
   case measure =>
    have hw:wrap64 ((k:Int)+1)=k+1:=by unfold wrap64;omega
    simp[intOf,hw];omega
  ·obtain rfl:k=len:=by omega
   gi_wp2
   go_end0
   exact ⟨⟨_,rfl⟩,hJs⟩
set_option maxHeartbeats 2000000 in
theorem appSeq_in (n:Nat) (hn:2≤n) (pb po len cap:Nat) (a:Option Addr) (ss:List (List UInt8)) (hlen:ss.length=len) (hN:len≤maxLen) (hNb:len*16≤140737488355328) (w:World) (hp:w.cell? ⟨pb,po,none⟩=some (.slice a len cap))
 (hc:0<len→∃b off,a=some ⟨b,off,none⟩∧b<w.heap.size∧∀j,j<len→w.cell? ⟨b,off+j,none⟩=some (encStr (ss.getD j []))) :
 CallsIn Fence.wide n Tryz.prog 208 #[.slice none 0 0,.func (.func 159) #[] #[.pointer (some ⟨pb,po,none⟩)]] w fun e w'=>∃v:Value,e=.returned v∧w'.ownsRow w.heap.size (Z4.t 26) 1 v ss.length (ss.map encStr)∧(v=.slice none 0 0↔ss=[])∧Below w.heap.size w w':=by
 have hpl:pb<w.heap.size:=World.block_lt_of_cell? _ _ hp
 have L:SlLaysZ.n11 Tryz.prog Z4:={ layZ with }
 have h1:1≤n:=by omega
 have eg:∀args w,(callFunc 159 args).run Tryz.prog w=.ok (.enter 159 args) w:=enters_of Tryz.func159 (by kernel_rfl) rfl
 have mixed:=L.mixed;have t0:=L.t0;have a0:=L.a0;have z0:=L.z0;have v0:=L.v0;have t24:=L.t24;have a24:=L.a24;have z24:=L.z24;have v24:=L.v24;have t26:=L.t26;have a26:=L.a26;have z26:=L.z26;have v26:=L.v26;have t28:=L.t28;have a28:=L.a28;have z28:=L.z28;have v28:=L.v28
 have hne:Z4.t 24≠Z4.t 26:=fun e=>by have h:=L.t24;rw[e,L.t26]at h;cases h
 have u0:=run_underlying L.t0;have u24:=run_underlying L.t24;have u26:=run_underlying L.t26;have u28:=run_underlying L.t28
 obtain ⟨_,_,FG⟩:=L.f11
 refine callsIn_of_wp_marks FG rfl trivial ?_ rfl
 simp only[SlBodyZ.n11_ntmps Z4,List.size_toArray,List.length_cons,List.length_nil,Nat.reduceAdd,Nat.reduceSub,Array.replicate_succ,Array.replicate_zero,List.push_toArray,List.append_toArray,List.nil_append,List.cons_append]
 gi_wp2
 refine wpIn_rangeFunc ?_
 intro fn hfn
 rw[show (Fence.wide).round=none from rfl]
 obtain ⟨W0,hW0⟩:∃W0,w.alloc (.cells #[.slice none 0 0] (Z4.t 24))=W0:=⟨_,rfl⟩
 have hs0:W0.heap.size=w.heap.size+1:=by rw[←hW0];simp
 have hv0:W0.heap[w.heap.size]?=some (.cells #[.slice none 0 0] (Z4.t 24) (0,0)):=by rw[←hW0];exact World.alloc_heap_new w _
 have hb0:Below w.heap.size w W0:=by rw[←hW0];exact (Below.refl _ w).alloc (Nat.le_refl _) _
 rw[hW0]
 obtain ⟨W1,hW1⟩:∃W1,(W0.alloc (.deferred (some []))).alloc (.loop (AnyZ.apRec Z4 fn (.func (.func 159) #[] #[.pointer (some ⟨pb,po,none⟩)]) w.heap.size W0.heap.size .ready none))=W1:=⟨_,rfl⟩
 have hold:∀k,k<W0.heap.size→W1.heap[k]?=W0.heap[k]?:=fun k hk=>by
  rw[←hW1];exact (Below.heap_alloc _ _ k (by simp;omega)).trans (Below.heap_alloc _ _ k hk)
 have hb1:Below w.heap.size w W1:=by rw[←hW1];exact (hb0.alloc hb0.size _).alloc (by have:=hb0.size;simp;omega) _
 have hs1:W1.heap.size=W0.heap.size+2:=by rw[←hW1];simp
 have hM:AnyZ.ApAt Z4 w fn (.func (.func 159) #[] #[.pointer (some ⟨pb,po,none⟩)]) w.heap.size (W0.heap.size+1) W0.heap.size [] W1 :=
  ⟨⟨_,(hold w.heap.size (by omega)).trans hv0,⟨rfl,.inl ⟨rfl,rfl⟩⟩,by simp⟩,
   by rw[←hW1];have:=World.alloc_heap_new (W0.alloc (.deferred (some []))) (.loop (AnyZ.apRec Z4 fn (.func (.func 159) #[] #[.pointer (some ⟨pb,po,none⟩)]) w.heap.size W0.heap.size .ready none));rwa [World.size_alloc]at this,
   by rw[←hW1];exact (Below.heap_alloc _ _ _ (by simp)).trans (World.alloc_heap_new W0 _),hb1⟩
 refine ⟨W0.heap.size+1,[{ target:=.collected W0.heap.size,args:=#[] }],W1,{ target:=.fn (.func 159) #[.pointer (some ⟨pb,po,none⟩)],args:=#[.func (.yield (W0.heap.size+1)) #[] #[]] },W1,159,
  #[.func (.yield (W0.heap.size+1)) #[] #[]]++#[.pointer (some ⟨pb,po,none⟩)],W1,?_,?_,?_,?_,fun _=>h1,?_⟩
 ·rw[←hW1];exact run_enterLoop_outer _ _ _ _ _
 ·simp[resolve,go_sem]
 ·intro f' hf';trivial
 ·simp[invoke,go_sem,eg]
 ·have hss:(List.range len).map (fun j=>ss.getD j [])=ss:=by
   apply List.ext_getElem
   ·simp[hlen]
   ·intro i h1 h2
    simp[List.getD_eq_getElem?_getD,h2]
  refine (vals1_in (n - 1) (by omega) (W0.heap.size+1) pb po w.heap.size len cap a (fun j=>ss.getD j []) (by omega) w (AnyZ.ApAt Z4 w fn (.func (.func 159) #[] #[.pointer (some ⟨pb,po,none⟩)]) w.heap.size (W0.heap.size+1) W0.heap.size) (fun s W h=>h.below)
   (fun pre x W hJ hl=>AnyZ.apYield { L with } Fence.wide (n - 1 - 1) w fn hfn _ w.heap.size (W0.heap.size+1) W0.heap.size (by omega) (by omega) (by omega) (Nat.le_refl _) (by omega) len hN hNb pre x W hJ hl) W1 ((hb1.cell (p:=⟨pb,po,none⟩) hpl).trans hp) hc hM).mono ?_
  rintro e W2 ⟨⟨v0,rfl⟩,h2⟩
  rw[hss]at h2
  obtain ⟨v,hv,hrow,hnil⟩:=h2.box
  have hend:=run_endLoop (P:=Tryz.prog) h2.L (by simp[AnyZ.apRec])
  obtain ⟨W3,hW3⟩:∃W3,W2.putObj (W0.heap.size+1) (.loop { AnyZ.apRec Z4 fn (.func (.func 159) #[] #[.pointer (some ⟨pb,po,none⟩)]) w.heap.size W0.heap.size .ready none with state:=.exhausted })=W3:=⟨_,rfl⟩
  rw[hW3]at hend
  have hg3:W2.grownBy W3 (some (W0.heap.size+1)):=by rw[←hW3];exact grownBy_putObj_a _ _ _
  have hv3:W3.heap[w.heap.size]?=some (.cells #[v] (Z4.t 24) (0,0)):=by rw[←hW3];exact (World.putObj_heap_other (by omega)).trans hv
  have hK3:W3.heap[W0.heap.size]?=some (.deferred (some [])):=by rw[←hW3];exact (World.putObj_heap_other (by omega)).trans h2.K
  have hrow3:=hrow.kept hg3 (ownsRow_ne_a hrow h2.L (fun cur e=>by first|cases e|exact hne (Obj.cells.inj e).2.1))
  have hb3:Below w.heap.size w W3:=h2.below.grown hg3 h2.below.size (fun k e=>by cases e;omega)
  obtain ⟨hc3,hf3⟩:=cell_of_box_a hv3
  clear hW3
  refine ⟨none,W3,hend,?_⟩
  gi_wp2
  rw[←hs0]
  refine ⟨by simp,.inl ⟨_,_,rfl,run_takeDeferred hK3,?_⟩⟩
  exact ⟨_,results_tmp rfl _ _ _,v,rfl,hrow3.kept (grownBy_putObj_a _ _ _) (ownsRow_ne_a hrow3 hK3 (fun cur e=>by first|cases e|exact hne (Obj.cells.inj e).2.1)),hnil,hb3.grown (grownBy_putObj_a _ _ _) hb3.size (fun k e=>by cases e;omega)⟩
set_option maxHeartbeats 1000000 in
theorem coll_in (n:Nat) (hn:3≤n) (pb po len cap:Nat) (a:Option Addr) (ss:List (List UInt8)) (hlen:ss.length=len) (hN:len≤maxLen) (hNb:len*16≤140737488355328) (w:World) (hp:w.cell? ⟨pb,po,none⟩=some (.slice a len cap))
 (hc:0<len→∃b off,a=some ⟨b,off,none⟩∧b<w.heap.size∧∀j,j<len→w.cell? ⟨b,off+j,none⟩=some (encStr (ss.getD j []))) :
 CallsIn Fence.wide n Tryz.prog 158 #[.func (.func 159) #[] #[.pointer (some ⟨pb,po,none⟩)]] w fun e w'=>∃v:Value,e=.returned v∧w'.ownsRow w.heap.size (Z4.t 26) 1 v ss.length (ss.map encStr)∧(v=.slice none 0 0↔ss=[])∧Below w.heap.size w w':=by
 have h1:1≤n:=by omega
 have hg:Fence.wide.fn 208:=trivial
 refine callsIn_of_wp Tryz.func158 rfl trivial ?_ rfl
 simp only[Tryz.ntmps158,List.size_toArray,List.length_cons,List.length_nil,Nat.reduceAdd,Nat.reduceSub,Array.replicate_succ,Array.replicate_zero,List.push_toArray,List.append_toArray,List.nil_append,List.cons_append]
 gi_wp2_with (gi_at_call 208;refine (appSeq_in (n - 1) (by omega) pb po len cap a ss hlen hN hNb _ hp hc).mono ?_;rintro e w' ⟨v,rfl,hrow,hnil,hb⟩)
 go_ret
 exact ⟨v,rfl,hrow,hnil,hb⟩
set_option maxHeartbeats 1000000 in
theorem sorted_in (n:Nat) (hn:4≤n) (pb po len cap:Nat) (a:Option Addr) (ss:List (List UInt8)) (hlen:ss.length=len) (hN:len≤maxLen) (hNb:len*16≤140737488355328) (w:World) (hp:w.cell? ⟨pb,po,none⟩=some (.slice a len cap))
 (hc:0<len→∃b off,a=some ⟨b,off,none⟩∧b<w.heap.size∧∀j,j<len→w.cell? ⟨b,off+j,none⟩=some (encStr (ss.getD j []))) :
 CallsIn Fence.wide n Tryz.prog 101 #[.func (.func 159) #[] #[.pointer (some ⟨pb,po,none⟩)]] w fun e w'=>∃v:Value,e=.returned v∧w'.ownsRow w.heap.size (Z4.t 26) 1 v ss.length ((ss.mergeSort (fun x y=>decide (x≤y))).map encStr)∧Below w.heap.size w w':=by
 subst hlen
 have h1:1≤n:=by omega
 have hg:Fence.wide.fn 158:=trivial
 have hg':Fence.wide.fn 106:=trivial
 refine callsIn_of_wp Tryz.func101 rfl trivial ?_ rfl
 simp only[Tryz.ntmps101,List.size_toArray,List.length_cons,List.length_nil,Nat.reduceAdd,Nat.reduceSub,Array.replicate_succ,Array.replicate_zero,List.push_toArray,List.append_toArray,List.nil_append,List.cons_append]
 gi_wp2_with (gi_at_call 158;refine (coll_in (n - 1) (by omega) pb po ss.length cap a ss rfl hN hNb _ hp hc).mono ?_;rintro e W ⟨v,rfl,hrow,hnil,hb⟩)
 rcases hrow.2 with ⟨rfl,hz⟩|⟨gb,cap,cur,rfl,hbase,hgb,r1,r2,r3,r4⟩
 ·have hss:ss=[]:=List.eq_nil_of_length_eq_zero hz
  subst hss
  gi_wp2_with (gi_at_call 106;refine (callsIn_wide.2 (Any.slices_Sort_string_none layS none 0 W)).mono ?_;rintro e w' ⟨rfl,rfl⟩)
  go_ret
  exact ⟨.slice none 0 0,rfl,by simpa using hrow,hb⟩
 ·have hH:Holds encStr W gb 0 ss.toArray:=holds_of_block hgb (by simpa using r4)
  have hgl:gb<W.heap.size:=(Array.getElem?_eq_some_iff.1 hgb).1
  have hsz:ss.length<4611686018427387904:=by omega
  gi_wp2_with (gi_at_call 106;refine (callsIn_wide.2 (Any.slices_Sort_string layS gb 0 cap ss W hH hgl hsz)).mono ?_;rintro e w' ⟨rfl,nn,os,rfl⟩)
  go_ret
  exact ⟨_,rfl,ownsRow_sorted (ts:=ss.mergeSort fun x y=>decide (x≤y)) (List.length_mergeSort ..) hbase hgb r1 r2 r3,hb.grown (grownBy_sorted _) hb.size (fun j hj=>by cases hj;exact hbase)⟩
theorem sorted_c (l:List ByteArray) (hl:l.length≤1000000):ACall Tryz.prog 101 [] [.e (.c (.v (.f 159 [[ssV l]])))] (ssD (sortS l)) []:=by
 refine acall_raw2 ⟨_,Tryz.func101,by kernel_rfl,by kernel_rfl⟩ fun w vs ow ρ hG ha=>?_
 match vs,ha with
 | [f],⟨hf,_⟩ =>
  obtain ⟨ad,sl,rfl,hcell,hsl⟩:∃(ad:Addr) (sl:Value),f=.func (.func 159) #[] #[.pointer (some ad)]∧w.cell? ad=some sl∧RepV w ow (ssV l) sl:=by
   cases (show RepV w ow (.f 159 [[ssV l]]) f from hf) with
   | f _ _ ads g hn hc hr =>
    match ads,hn with
    | [ad],_=>exact ⟨ad,g 0 0,rfl,(hc 0 ad _ 0 _ rfl rfl rfl).1,hr 0 _ 0 _ rfl rfl⟩
  obtain ⟨pb,po,ps⟩:=ad
  have hps:ps=none:=by
   unfold World.cell? at hcell
   split at hcell
   ·cases ps with
    | none=>rfl
    | some _=>simp at hcell
   ·cases hcell
  subst hps
  obtain ⟨a,cap,rfl,hz,hcl⟩:∃(a:Option Addr) (cap:Nat),sl=.slice a l.length cap∧(a=none→l=[])∧(∀ad,a=some ad→∀j (h:j<l.length),w.cell? (ad.add j)=some (.string (l.getD j default))):=by
   cases hsl with
   | s _ _ a n c g hn hk hz hcap hc hr =>
    have hn:n=l.length:=by simpa using hn
    subst hn
    refine ⟨a,c,rfl,fun h=>by simpa using hz h,fun ad had j hj=>?_⟩
    have e1:(l.map fun s=>[V.x (.string s)])[j]?=some [V.x (.string (l.getD j default))]:=by simp[hj]
    have h1:=(hc ad had j _ 0 _ e1 rfl).1
    have h2:=hr j _ 0 _ e1 rfl
    have e2:g j 0=.string (l.getD j default):=by
     generalize g j 0=u at h2
     cases h2
     rfl
    rw[←e2]
    simpa using h1
  have hcc:0<l.length→∃b off,a=some ⟨b,off,none⟩∧b<w.heap.size∧∀j,j<l.length→w.cell? ⟨b,off+j,none⟩=some (encStr ((l.map fun s=>s.data.toList).getD j [])):=by
   intro h0
   cases a with
   | none=>have:=hz rfl;subst this;simp at h0
   | some ad =>
    obtain ⟨b,off,sp⟩:=ad
    have h00:=hcl _ rfl 0 h0
    have hsp:sp=none:=by
     unfold World.cell? Addr.add at h00
     simp only[if_true]at h00
     split at h00
     ·cases sp with
      | none=>rfl
      | some _=>simp at h00
     ·cases h00
    subst hsp
    refine ⟨b,off,rfl,?_,fun j hj=>?_⟩
    ·have:=World.block_lt_of_cell? _ _ h00
     rwa [Yg]at this
    ·have:=hcl _ rfl j hj
     have e:(⟨b,off,none⟩:Addr).add j=⟨b,off+j,none⟩:=by
      unfold Addr.add
      split
      ·rename_i h;subst h;rfl
      ·rfl
     rw[e]at this
     rw[this]
     simp[encStr,hj]
  refine ((callsIn_wide (n:=4)).1 (sorted_in 4 (by omega) pb po l.length cap a (l.map fun s=>s.data.toList) (by simp) (by unfold maxLen;omega) (by omega) w hcell hcc)).mono ?_
  rintro e w' ⟨v,rfl,hrow,hb⟩
  refine ⟨v,rfl,hb,fun ow' ρ' how=>?_⟩
  show RepV w' ow' (ssV (sortS l)) v
  rcases hrow.2 with ⟨rfl,hzz⟩|⟨g,cap',cur,rfl,hbase,hgb,r1,r2,r3,r4⟩
  ·have:l=[]:=by simpa using hzz
   subst this
   exact .s 1 _ none 0 0 (fun _ _=>undef) (by simp[sortS]) (by simp[sortS]) (fun _=>by simp[sortS]) (Nat.le_refl _) (by simp) (by simp[sortS])
  ·have hlen2:(sortS l).length=l.length:=Yx l
   refine .s 1 _ _ _ _ (fun i _=>.string ((sortS l).getD i default)) (by simp[hlen2]) (fun i r hi=>?_) (fun h=>by cases h) r1 (fun ad had i r j v hi hj=>?_) (fun i r j v hi hj=>?_)
   ·obtain ⟨s,_,rfl⟩:=List.mem_map.1 (List.mem_of_getElem? hi);rfl
   ·cases had
    rw[List.getElem?_map]at hi
    obtain ⟨s,hs,rfl⟩:=Option.map_eq_some_iff.1 hi
    have hj0:j=0:=by
     cases j with
     | zero=>rfl
     | succ j=>simp at hj
    subst hj0
    obtain ⟨hil,his⟩:=List.getElem?_eq_some_iff.1 hs
    have hcell:=hrow.cellAt i (by rw[List.length_map];omega)
    refine ⟨?_,fun ho=>?_⟩
    ·have ea:(⟨g,0,none⟩:Addr).add (i*1+0)=⟨g,i,none⟩:=by
      unfold Addr.add
      split
      ·rename_i h
       have:i=0:=by omega
       subst this;rfl
      ·simp
     rw[ea,hcell]
     unfold sortS at hs ⊢
     rw[List.getElem?_map]at hs
     obtain ⟨d,hd,rfl⟩:=Option.map_eq_some_iff.1 hs
     rw[List.getElem?_map,hd,List.getD_eq_getElem?_getD,List.getElem?_map,hd]
     rfl
    ·have:g<w.heap.size:=how _ ho
     omega
   ·rw[List.getElem?_map]at hi
    obtain ⟨s,hs,rfl⟩:=Option.map_eq_some_iff.1 hi
    have hj0:j=0:=by
     cases j with
     | zero=>rfl
     | succ j=>simp at hj
    subst hj0
    cases hj
    have:(sortS l).getD i default=s:=by rw[List.getD_eq_getElem?_getD,hs];rfl
    rw[this]
    exact .x _ rfl
end Eng
end Go.Proofs.YtgenjpingdkmgaaGreatDoor
namespace Go.Proofs.YtgenjpingdkmgaaGreatDoor
namespace Eng
namespace NO
theorem placeN_congr {id:ByteArray}:∀ {l l':List Ord},l.map Ord.id=l'.map Ord.id→placeN id l=placeN id l'
 | [],[],_=>rfl
 | [],_::_,h=>by simp at h
 | _::_,[],h=>by simp at h
 | o::l,o'::l',h=>by
  simp only[List.map_cons,List.cons.injEq]at h
  have e:eqN o id=eqN o' id:=by simp only[eqN,h.1]
  rw[placeN,placeN,e,placeN_congr h.2]
theorem placeI_congr {id:ByteArray} {l l':List Ord} (h:l.map Ord.id=l'.map Ord.id):placeI l id=placeI l' id:=by
 unfold placeI;rw[placeN_congr h]
theorem map_set_id (l:List Ord) (i:Nat) (a:Ord) (h:a.id=(l.getD i default).id):(l.set i a).map Ord.id=l.map Ord.id:=by
 rw[List.map_set]
 apply List.ext_getElem?
 intro j
 rw[List.getElem?_set]
 split
 ·rename_i e
  subst e
  split
  ·rename_i hl
   simp only[List.length_map]at hl
   simp[hl,h,List.getD_eq_getElem?_getD]
  ·rename_i hl
   rw[List.getElem?_eq_none (by omega)]
 ·rfl
theorem getD_id {l l':List Ord} (h:l.map Ord.id=l'.map Ord.id) (i:Nat):(l.getD i default).id=(l'.getD i default).id:=by
 have h1:(l.map Ord.id)[i]?=(l'.map Ord.id)[i]?:=by rw[h]
 simp only[List.getElem?_map]at h1
 simp only[List.getD_eq_getElem?_getD]
 cases e1:l[i]?<;>cases e2:l'[i]?<;>simp_all
theorem right_set {l:List Ord} {i:Nat} {a:Ord} (h:rightB l=true) (hid:a.id=(l.getD i default).id) (hm:mayB a=true):rightB (l.set i a)=true:=by
 rw[Zy]at h ⊢
 have e:=map_set_id l i a hid
 refine ⟨by simpa using h.1,fun j hj=>?_⟩
 simp only[List.length_set]at hj
 have hj':=h.2 j hj
 constructor
 ·by_cases c:i=j
  ·subst c
   rw[show (l.set i a).getD i default=a by simp[List.getD_eq_getElem?_getD,hj]]
   exact hm
  ·rw[show (l.set i a).getD j default=l.getD j default by simp[List.getD_eq_getElem?_getD,List.getElem?_set_ne c]]
   exact hj'.1
 ·rw[getD_id e,placeI_congr (l:=(l.set i a).take j) (l':=l.take j) (by rw[List.map_take,List.map_take,e])]
  exact hj'.2
theorem right_app {l:List Ord} {a:Ord} (h:rightB l=true) (hl:l.length<64) (hm:mayB a=true) (hp:placeI l a.id<0):rightB (l++[a])=true:=by
 rw[Zy]at h ⊢
 refine ⟨by simp;omega,fun j hj=>?_⟩
 simp only[List.length_append,List.length_cons,List.length_nil]at hj
 by_cases c:j=l.length
 ·subst c
  rw[show (l++[a]).getD l.length default=a by simp[List.getD_eq_getElem?_getD]]
  refine ⟨hm,?_⟩
  rw[List.take_left' rfl];exact hp
 ·rw[show (l++[a]).getD j default=l.getD j default by simp[List.getD_eq_getElem?_getD,List.getElem?_append_left (show j<l.length by omega)],List.take_append_of_le_length (by omega)]
  exact h.2 j (by omega)
theorem openI_spec {l:List Ord} {id:ByteArray} (h:¬openI l id<0):placeI l id=openI l id∧0≤placeI l id∧(l.getD (placeI l id).toNat default).op=true:=by
 unfold openI at h ⊢
 split
 ·rename_i c;rw[if_pos c]at h;omega
 ·rename_i c
  rw[if_neg c]at h
  refine ⟨rfl,by omega,?_⟩
  cases e:(l.getD (placeI l id).toNat default).op
  ·exact absurd ⟨by omega,e⟩ c
  ·rfl
theorem placeI_none {l:List Ord} {id:ByteArray} (h:placeI l id<0):placeN id l=none:=by
 unfold placeI at h
 split at h
 ·omega
 ·assumption
end NO
end Eng
end Go.Proofs.YtgenjpingdkmgaaGreatDoor
