/- Contracts of functions that this seat's law calls. No condition. -/
import Derived.Shelf.Strings.OnBuilder
import Derived.Test.YtgenjpingdkmgaaGreatDoorM26
set_option maxRecDepth 100000
set_option linter.unusedSimpArgs false
set_option linter.unusedVariables false
namespace Go.Proofs.YtgenjpingdkmgaaGreatDoor
namespace Eng
theorem getD_nR (l:List Nam) (i:Nat):(l.map fun x=>[V.x (.string x.acc),V.x (.string x.sym)]).getD i [V.x (.string ⟨#[]⟩),V.x (.string ⟨#[]⟩)]=[V.x (.string (l.getD i default).acc),V.x (.string (l.getD i default).sym)]:=by
 simp only[List.getD_eq_getElem?_getD,List.getElem?_map]
 cases l[i]?<;>rfl
def nmF (f:Fil):Nam:=⟨f.acc,f.sym⟩
def namesF (b:Bk):List Nam:=b.fills.map nmF
noncomputable def posN (b:Bk) (n:Nam):NA.Pos:=posOf b n.acc n.sym
noncomputable def lallF (b:Bk):List NA.Pos:=(dedN (sortN (namesF b))).map (posN b)
theorem takeN {α β:Type} [Inhabited α] (f:α→β) {l:List α} {i:Nat} (h:i<l.length):(l.take (i+1)).map f=(l.take i).map f++[f (l.getD i default)]:=by
 rw[List.take_add_one,List.getElem?_eq_getElem h,List.getD_eq_getElem?_getD,List.getElem?_eq_getElem h,List.map_append];rfl
theorem padN_take (l:List Nam) (n:Nat):(nR (padN l n)).take l.length=nR l:=by
 show List.take l.length (List.map _ (l++List.replicate (n - l.length) default))=_
 rw[List.map_append,List.take_left' (by simp)]
theorem padN_len (l:List Nam) (n:Nat) (h:l.length≤n):(padN l n).length=n:=by simp[padN];omega
theorem nR_app (l:List Nam) (x:Nam) (i:Nat) (h:l.length≤i):nR (l++[x])=List.take i (nR l)++[[V.x (.string x.acc),V.x (.string x.sym)]]:=by
 rw[List.take_of_length_le (by rw[List.length_map];exact h)]
 exact List.map_append
theorem pR_app (l:List NA.Pos) (x:NA.Pos) (i:Nat) (h:l.length≤i):NA.pR (l++[x])=List.take i (NA.pR l)++[[V.x (.string x.acc),V.x (.string x.sym),V.x (.int .i64 x.qty),V.x (.int .i64 x.value),V.x (.bool x.over)]]:=by
 rw[List.take_of_length_le (by rw[List.length_map];exact h)]
 exact List.map_append
def qLA1:=PLift.up (An @Z3 (An @getD_nR (An @NA.evO_f (An @List.map_append.{0,0} (An @List.map_cons.{0,0} (An @List.map_nil.{0,0} (An @List.length_append.{0} (An @List.length_cons.{0} (An @List.length_nil.{0} @List.length_map.{0,0})))))))))
theorem lall_c (b:Bk) (h:bkP b) (r:List NA.Pos) (hr:lallF b=r):ACall Tryz.prog 9 [] [bkD b] (NA.psD r) []:=by
 have hright:=bkRight_c b h
 have hfl:=h.fl
 refine Ac Tryz.func9 ?_
 refine Wo (Own.mk (f:=(oF [36,40]))) qLA1.1 @hright ?_
 refine Cc ?_ ?_<;>intro hc<;>(try simp only[Za,ne_eq]at hc)
 ·contradiction
 ·refine Wo (Own.mk (f:=(oF [36,40]))) qLA1.1 @hright ?_
  refine AWp.loop (fun i:Nat=>mkSt [(1,.p 0 0),(3,.e (.c (.o 1 i))),(13,fsD b.fills),(14,I b.fills.length),(15,I i)] [(0,.loc (bkC b)),(1,.row 2 (nR ((b.fills.take i).map nmF)))] 2)
   (fun i=>i≤b.fills.length) (fun i=>b.fills.length - i) 0 (Nat.zero_le _) (by refine Le.of (τ:=[]) (ν:=[1]) (by kernel_rfl) ?_ ?_<;>((first|exact Lw qLA1.1 trivial|refine Lw qLA1.1 ?_);try (first|omega|rfl))) fun i hi=>?_
  refine Wo (Own.mk (f:=(oF [36,40]))) qLA1.1 @hright ?_
  refine Cc ?_ ?_<;>intro hc<;>(try simp only[Za,ne_eq]at hc)
  ·have hil:i<b.fills.length:=by omega
   have hz:=takeN nmF hil
   generalize hof:b.fills.getD i default=f at hz
   refine Wo (Own.mk (f:=(oF [36,40]))) (An @hof qLA1.1) @hright ?_
   refine Zb (i+1) (show i+1≤b.fills.length by omega) (by omega) (by refine Le.of (τ:=[(1,770)]) (ν:=[]) (by kernel_rfl) ?_ ?_<;>((refine Lv (An @hof qLA1.1) fun eE=>?_;first|exact Lw (@Box.out _ eE) trivial|refine Lw (@Box.out _ eE) ?_);try (first|omega|rfl|(rw[hz];exact nR_app _ (nmF f) i (by simp;omega)))))
  ·have e:i=b.fills.length:=by omega
   subst e
   have hnl:(namesF b).length=b.fills.length:=List.length_map ..
   have hsort:=sortN_c (namesF b) (by omega)
   rw[hnl]at hsort
   have hsl:(sortN (namesF b)).length=b.fills.length:=by rw[sortN_len,hnl]
   unfold lallF at hr
   obtain ⟨d,hd⟩:∃d,dedN (sortN (namesF b))=d:=⟨_,rfl⟩
   have hcomp:=compact_c (sortN (namesF b)) (by omega) d hd
   rw[hsl]at hcomp
   have hdl:d.length≤b.fills.length:=by rw[←hd,←hsl];exact dedT_len _ _
   rw[hd]at hr
   have htk:(b.fills.take b.fills.length).map nmF=namesF b:=by rw[List.take_length];rfl
   rw[htk]
   refine Wo (Own.mk (f:=(oF [36,40]))) qLA1.1 (An @hright (An @hsort @hcomp)) ?_
   refine AWp.freeze [] ?_
   refine AWp.loop (fun i:Nat=>mkSt [(1,.p 0 0),(6,.e (.c (.o 1 i))),(31,nsD d),(32,I d.length),(33,I i)] [(0,.loc (bkC b)),(1,.row 5 (NA.pR ((d.take i).map (posN b))))] 2)
    (fun i=>i≤d.length) (fun i=>d.length - i) 0 (Nat.zero_le _) (by refine Le.of (τ:=[]) (ν:=[1]) (by kernel_rfl) ?_ ?_<;>((first|exact Lw qLA1.1 trivial|refine Lw qLA1.1 ?_);try (first|omega|rfl|exact ⟨(padN_take d _).symm,by rw[padN_len _ _ hdl];exact hdl⟩))) fun i hi=>?_
   refine Wo (Own.mk (f:=(oF [36,40]))) qLA1.1 (An @hright (An @hsort @hcomp)) ?_
   refine Cc ?_ ?_<;>intro hc<;>(try simp only[Za,ne_eq]at hc)
   ·have hil:i<d.length:=by omega
    have hz:=takeN (posN b) hil
    have hof1:=lof_c b (d.getD i default).acc (d.getD i default).sym h (posN b (d.getD i default)) rfl
    generalize hof:d.getD i default=n at hz hof1
    refine Wo (Own.mk (f:=(oF [36,40]))) (An @hof qLA1.1) (An @hright (An @hsort (An @hcomp @hof1))) ?_
    refine Zb (i+1) (show i+1≤d.length by omega) (by omega) (by refine Le.of (τ:=[(1,834)]) (ν:=[]) (by kernel_rfl) ?_ ?_<;>((refine Lv (An @hof qLA1.1) fun eE=>?_;first|exact Lw (@Box.out _ eE) trivial|refine Lw (@Box.out _ eE) ?_);try (first|omega|rfl|(rw[hz];exact pR_app _ _ i (by simp;omega)))))
   ·have e:i=d.length:=by omega
    subst e
    subst hr
    refine Wo (Own.mk (f:=(oF [36,40]))) qLA1.1 (An @hright (An @hsort @hcomp)) ?_
    first|exact Fn @Tryz.results9 qLA1.1 trivial|refine Fn @Tryz.results9 qLA1.1 ?_
    exact (List.take_of_length_le (by simp)).symm
noncomputable def listsG (g:Gat):List (List NA.Pos):=g.vens.map fun v=>lallF v.bk
noncomputable def posG (g:Gat):List NA.Pos:=if (NA.allS (listsG g)).2≠0 then [] else (NA.allS (listsG g)).1
theorem LR_app (l:List (List NA.Pos)) (x:List NA.Pos) (i:Nat) (h:l.length≤i):NA.LR (l++[x])=List.take i (NA.LR l)++[[V.s 5 (NA.pR x)]]:=by
 rw[List.take_of_length_le (by rw[List.length_map];exact h)]
 exact List.map_append
def qGQ1:=PLift.up (An @getD_vR (An @List.map_append.{0,0} (An @List.map_cons.{0,0} (An @List.map_nil.{0,0} (An @List.length_append.{0} (An @List.length_cons.{0} (An @List.length_nil.{0} @List.length_map.{0,0})))))))
theorem gpos_c (g:Gat) (h:gatP g) (hl:(listsG g).flatten.length≤1000) (r:List NA.Pos) (hr:posG g=r):ACall Tryz.prog 11 [] [gtD g] (NA.psD r) []:=by
 have hright:=gateR_c g h
 have hvl:=h.n
 refine Ac Tryz.func11 ?_
 refine Wk qGQ1.1 @hright ?_
 refine Cc ?_ ?_<;>intro hc<;>(try simp only[Za,ne_eq]at hc)
 ·contradiction
 ·refine Wk qGQ1.1 @hright ?_
  refine AWp.loop (fun i:Nat=>mkSt [(3,.e (.c (.o 0 i))),(12,.e (.c (.v (.s 8 (vR g.vens))))),(13,I g.vens.length),(14,I i)] [(0,.row 1 (NA.LR ((g.vens.take i).map fun v=>lallF v.bk)))] 1)
   (fun i=>i≤g.vens.length) (fun i=>g.vens.length - i) 0 (Nat.zero_le _) (by refine Le.of (τ:=[]) (ν:=[0]) (by kernel_rfl) ?_ ?_<;>((first|exact Lw qGQ1.1 trivial|refine Lw qGQ1.1 ?_);try (first|omega|rfl))) fun i hi=>?_
  refine Wk qGQ1.1 @hright ?_
  refine Cc ?_ ?_<;>intro hc<;>(try simp only[Za,ne_eq]at hc)
  ·have hil:i<g.vens.length:=by omega
   have hz:=takeN (fun v=>lallF v.bk) hil
   have hb:=(h.vens _ (Yd hil)).bk
   have hall:=lall_c (g.vens.getD i default).bk hb _ rfl
   generalize hof:g.vens.getD i default=v at hz hb hall
   refine Wk (An @hof qGQ1.1) (An @hright @hall) ?_
   refine Zb (i+1) (show i+1≤g.vens.length by omega) (by omega) (by refine Le.of (τ:=[(0,641)]) (ν:=[]) (by kernel_rfl) ?_ ?_<;>((refine Lv (An @hof qGQ1.1) fun eE=>?_;first|exact Lw (@Box.out _ eE) trivial|refine Lw (@Box.out _ eE) ?_);try (first|omega|rfl|(rw[hz];exact LR_app _ _ i (by simp;omega)))))
  ·have e:i=g.vens.length:=by omega
   subst e
   have htk:(g.vens.take g.vens.length).map (fun v=>lallF v.bk)=listsG g:=by rw[List.take_length];rfl
   rw[htk]
   have hll:(listsG g).length=g.vens.length:=List.length_map ..
   unfold posG at hr
   have hmer:ACall Tryz.prog 10 [] [.e (.c (.v (.s 1 (List.take g.vens.length (NA.LR (listsG g))))))] (NA.resA (NA.allS (listsG g))) []:=by
    rw[List.take_of_length_le (by rw[List.length_map];omega)]
    exact NA.all13_c (listsG g) (by omega) hl _ rfl
   generalize NA.allS (listsG g)=q at hr hmer
   obtain ⟨q1,q2⟩:=q
   dsimp only at hr hmer
   refine Wk qGQ1.1 (An @hright @hmer) ?_
   refine Cc ?_ ?_<;>intro hc<;>(try simp only[Za,ne_eq]at hc)
   ·rw[if_pos hc]at hr
    subst hr
    refine Wk qGQ1.1 (An @hright @hmer) ?_
    first|exact Fn @Tryz.results11 qGQ1.1 trivial|refine Fn @Tryz.results11 qGQ1.1 ?_
   ·rw[if_neg (by simpa using hc)]at hr
    subst hr
    refine Wk qGQ1.1 (An @hright @hmer) ?_
    first|exact Fn @Tryz.results11 qGQ1.1 trivial|refine Fn @Tryz.results11 qGQ1.1 ?_
section
open Go.Sort
theorem sortN_pair (l:List Nam):(sortN l).Pairwise fun a b=>NA.leP (toP a) (toP b):=by
 unfold sortN
 refine (List.pairwise_mergeSort (le:=fun x y=>!(ltOf cmpN) y x) (fun a b c h1 h2=>?_) (fun a b=>?_) _).imp fun {a b} h=>?_
 ·rw[Bool.not_eq_true',ltN_no]at *;exact NA.Yh h1 h2
 ·rw[Bool.or_eq_true,Bool.not_eq_true',Bool.not_eq_true',ltN_no,ltN_no];exact NA.leP_total _ _
 ·rw[Bool.not_eq_true',ltN_no]at h;exact h
theorem sortN_perm (l:List Nam):(sortN l).Perm l:=List.mergeSort_perm l _
theorem leP_eq {x y:Nam} (h1:NA.leP (toP x) (toP y)) (h2:NA.leP (toP y) (toP x)):x=y:=by
 rw[←cmpN_eq]
 unfold NA.leP at h1 h2
 have:=NA.Yp (toP x) (toP y)
 unfold cmpN;omega
theorem gdN {l:List Nam} {i:Nat} (h:i<l.length):l.getD i default=l[i]:=by rw[List.getD_eq_getElem?_getD,List.getElem?_eq_getElem h];rfl
theorem dedT_spec {l:List Nam} (hs:l.Pairwise fun a b=>NA.leP (toP a) (toP b)):∀m,m≤l.length→(dedT l m).Pairwise (fun a b=>cmpN a b<0)∧∀x,x∈dedT l m↔∃j,j<m∧l.getD j default=x
 | 0,_=>⟨.nil,fun x=>by simp[dedT]⟩
 | m+1,hm=>by
  obtain ⟨h1,h2⟩:=dedT_spec hs m (by omega)
  have hp:=List.pairwise_iff_getElem.1 hs
  have hle:∀i j,i≤j→j<l.length→NA.leP (toP (l.getD i default)) (toP (l.getD j default)):=fun i j hij hj=>by
   rcases Nat.lt_or_ge i j with h|h
   ·rw[gdN hj,gdN (Nat.lt_trans h hj)];exact hp i j (by omega) hj h
   ·obtain rfl:i=j:=by omega
    exact NA.leP_refl _
  rw[dedT]
  split
  ·rename_i hc
   refine ⟨h1,fun x=>(h2 x).trans ⟨fun ⟨j,hj,e⟩=>⟨j,by omega,e⟩,fun ⟨j,hj,e⟩=>?_⟩⟩
   by_cases hjm:j<m
   ·exact ⟨j,hjm,e⟩
   ·obtain rfl:j=m:=by omega
    exact ⟨j - 1,by omega,by rw[←hc.2];exact e⟩
  ·rename_i hc
   refine ⟨List.pairwise_append.2 ⟨h1,List.pairwise_singleton _ _,fun x hx y hy=>?_⟩,fun x=>?_⟩
   ·rw[List.mem_singleton.1 hy]
    obtain ⟨j,hj,rfl⟩:=(h2 x).1 hx
    have a1:=hle j m (by omega) (by omega)
    unfold NA.leP at a1
    by_cases h0:cmpN (l.getD j default) (l.getD m default)=0
    ·exfalso
     have e:=cmpN_eq.1 h0
     refine hc ⟨by omega,?_⟩
     have b1:=hle j (m - 1) (by omega) (by omega)
     have b2:=hle (m - 1) m (by omega) (by omega)
     rw[e]at b1
     exact leP_eq b1 b2
    ·have:cmpN (l.getD j default) (l.getD m default)≤0:=a1
     omega
   ·rw[List.mem_append,h2,List.mem_singleton]
    constructor
    ·rintro (⟨j,hj,e⟩|rfl)
     ·exact ⟨j,by omega,e⟩
     ·exact ⟨m,by omega,rfl⟩
    ·rintro ⟨j,hj,e⟩
     by_cases hjm:j<m
     ·exact .inl ⟨j,hjm,e⟩
     ·obtain rfl:j=m:=by omega
      exact .inr e.symm
noncomputable def nmsB (b:Bk):List Nam:=dedN (sortN (namesF b))
theorem nms_str (b:Bk):(nmsB b).Pairwise fun x y=>cmpN x y<0:=(dedT_spec (sortN_pair _) _ (Nat.le_refl _)).1
theorem nms_mem (b:Bk) (x:Nam):x∈nmsB b↔x∈namesF b:=by
 have h:=(dedT_spec (sortN_pair (namesF b)) _ (Nat.le_refl _)).2 x
 unfold nmsB dedN
 rw[h,←(sortN_perm (namesF b)).mem_iff]
 constructor
 ·rintro ⟨j,hj,rfl⟩;rw[gdN hj];exact List.getElem_mem hj
 ·intro hx
  obtain ⟨j,hj,rfl⟩:=List.getElem_of_mem hx
  exact ⟨j,hj,gdN hj⟩
theorem nms_nodup (b:Bk):(nmsB b).Nodup:=(nms_str b).imp fun {x y} h e=>by
 subst e
 rw[cmpN_eq.2 rfl]at h;omega
theorem posN_acc (b:Bk) (n:Nam):(posN b n).acc=n.acc∧(posN b n).sym=n.sym:=by
 unfold posN posOf posL;split<;>exact ⟨rfl,rfl⟩
theorem posN_good (b:Bk) (n:Nam):NA.goodP (posN b n):=by
 unfold posN posOf posL
 split
 ·exact ⟨NA.sumS_ok _,NA.sumS_ok _,fun h=>by cases h⟩
 ·exact ⟨NA.okN0,NA.okN0,fun _=>⟨rfl,rfl⟩⟩
theorem lall_right (b:Bk):NA.rgtP (lallF b):=by
 rw[NA.rgtP_iff]
 refine ⟨fun p hp=>?_,?_⟩
 ·obtain ⟨n,_,rfl⟩:=List.mem_map.1 hp
  exact posN_good b n
 ·unfold lallF
  rw[List.pairwise_map]
  refine (nms_str b).imp fun {x y} h=>?_
  have e:NA.cmpP (posN b x) (posN b y)=cmpN x y:=by
   unfold cmpN NA.cmpP toP
   rw[(posN_acc b x).1,(posN_acc b x).2,(posN_acc b y).1,(posN_acc b y).2]
  rw[e];exact h
theorem posG_eq (g:Gat):posG g=NA.allF (listsG g).flatten:=by
 unfold posG
 rw[NA.allS_yes (fun l hl=>by obtain ⟨v,_,rfl⟩:=List.mem_map.1 hl;exact lall_right _),if_neg (fun h=>h rfl)]
def sgnS (b:Bk) (a s:ByteArray):Int:=((b.fills.filter (selF a s)).map sgnF).sum
theorem filter_posN (b:Bk) (a s:ByteArray):∀(d:List Nam),d.Nodup→(d.map (posN b)).filter (NA.nm a s)=if (⟨a,s⟩:Nam)∈d then [posN b ⟨a,s⟩] else []
 | [],_=>by simp
 | n::d,hd=>by
  rw[List.nodup_cons]at hd
  rw[List.map_cons,List.filter_cons,filter_posN b a s d hd.2]
  by_cases hn:n=⟨a,s⟩
  ·subst hn
   rw[if_pos (show NA.nm a s (posN b ⟨a,s⟩)=true from NA.nm_iff.2 (posN_acc b _)),if_neg hd.1,if_pos (List.mem_cons_self ..)]
  ·have h1:¬NA.nm a s (posN b n)=true:=fun h=>hn (by
    obtain ⟨e1,e2⟩:=NA.nm_iff.1 h
    rw[(posN_acc b n).1]at e1
    rw[(posN_acc b n).2]at e2
    cases n;simp only at e1 e2;rw[e1,e2])
   rw[if_neg h1]
   have h2:(⟨a,s⟩:Nam)∈n::d↔(⟨a,s⟩:Nam)∈d:=by
    rw[List.mem_cons]
    exact ⟨fun h=>h.resolve_left fun e=>hn e.symm,.inr⟩
   simp only[h2]
theorem qty_lall (b:Bk) (a s:ByteArray) (h:∀x,x∈lallF b→x.over=false):(((lallF b).filter (NA.nm a s)).map (fun x=>x.qty)).sum=sgnS b a s:=by
 unfold lallF
 rw[show dedN (sortN (namesF b))=nmsB b from rfl,filter_posN b a s _ (nms_nodup b)]
 split
 ·rename_i hm
  have ho:=h (posN b ⟨a,s⟩) (List.mem_map.2 ⟨_,hm,rfl⟩)
  rw[List.map_cons,List.map_nil,List.sum_cons,List.sum_nil,Int.add_zero]
  unfold posN posOf posL at ho ⊢
  split
  ·rename_i hc
   have h2:=hc.2.1
   show (NA.sumS _).1=_
   by_cases hl:(∀x,x∈(b.fills.filter (selF a s)).map sgnF→NA.okN x)∧NA.okN ((b.fills.filter (selF a s)).map sgnF).sum
   ·rw[NA.sumS_yes hl.1 hl.2];rfl
   ·rw[NA.sumS_no hl]at h2;cases h2
  ·rename_i hc
   rw[if_neg hc]at ho
   cases ho
 ·rename_i hm
  have:b.fills.filter (selF a s)=[]:=List.filter_eq_nil_iff.2 fun f hf hs=>hm ((nms_mem b _).2 (List.mem_map.2 ⟨f,hf,by
   unfold selF at hs
   rw[Bool.and_eq_true,hit_t]at hs
   unfold nmF
   rw[NA.ba_eq hs.2.1,NA.ba_eq hs.2.2]⟩))
  unfold sgnS
  rw[this];rfl
theorem sum_flat (a s:ByteArray):∀ls:List (List NA.Pos),((ls.flatten.filter (NA.nm a s)).map (fun x=>x.qty)).sum=(ls.map fun l=>((l.filter (NA.nm a s)).map (fun x=>x.qty)).sum).sum
 | []=>rfl
 | l::ls=>by rw[List.flatten_cons,List.filter_append,List.map_append,List.sum_append,List.map_cons,List.sum_cons,sum_flat a s ls]
theorem tog_qty {a s:ByteArray} {l:List NA.Pos} (h:(NA.togP a s l).over=false):(NA.togP a s l).qty=(l.map (fun x=>x.qty)).sum:=by
 unfold NA.togP at h ⊢
 split
 ·rename_i hc
  have h2:=hc.2.1
  show (NA.sumS _).1=_
  by_cases hl:(∀x,x∈l.map (fun x=>x.qty)→NA.okN x)∧NA.okN (l.map (fun x=>x.qty)).sum
  ·rw[NA.sumS_yes hl.1 hl.2]
  ·rw[NA.sumS_no hl]at h2;cases h2
 ·rename_i hc
  rw[if_neg hc]at h
  cases h
theorem sumW_fst:∀l:List (Int×Int),(sumW l).1=(l.map (·.1)).sum∧(sumW l).2=(l.map (·.2)).sum
 | []=>⟨rfl,rfl⟩
 | x::l=>by
  rw[sumW_cons,List.map_cons,List.map_cons,List.sum_cons,List.sum_cons,←(sumW_fst l).1,←(sumW_fst l).2]
  exact ⟨rfl,rfl⟩
theorem sum_le {α:Type} (f g:α→Int):∀l:List α,(∀x,x∈l→f x≤g x)→(l.map f).sum≤(l.map g).sum
 | [],_=>Int.le_refl _
 | x::l,h=>by
  have h1:=h x (List.mem_cons_self ..)
  have h2:=sum_le f g l fun y hy=>h y (List.mem_cons_of_mem _ hy)
  rw[List.map_cons,List.map_cons,List.sum_cons,List.sum_cons];omega
theorem sum_filter (a s:ByteArray):∀l:List Fil,((l.filter (selF a s)).map sgnF).sum=(l.map fun f=>if selF a s f=true then sgnF f else 0).sum
 | []=>rfl
 | f::l=>by
  rw[List.filter_cons,List.map_cons,List.sum_cons,←sum_filter a s l]
  split
  ·rw[List.map_cons,List.sum_cons]
  ·omega
theorem sum_nn:∀l:List Int,(∀x,x∈l→0≤x)→0≤l.sum
 | [],_=>Int.le_refl _
 | x::l,h=>by
  have h1:=h x (List.mem_cons_self ..)
  have h2:=sum_nn l fun y hy=>h y (List.mem_cons_of_mem _ hy)
  rw[List.sum_cons];omega
theorem sum_neg {α:Type} (f:α→Int):∀l:List α,-(l.map f).sum=(l.map fun x=>-f x).sum
 | []=>rfl
 | x::l=>by rw[List.map_cons,List.map_cons,List.sum_cons,List.sum_cons,←sum_neg f l];omega
theorem fil_ge {b:Bk} {a s:ByteArray} {f:Fil} (h:NO.amountB f.qty=true):(if selF a s f=true then sgnF f else 0)≤(filW b a s f).1∧-(if selF a s f=true then sgnF f else 0)≤(filW b a s f).2:=by
 have:=amt_rng h
 unfold filW
 rw[show (f.lv && hitW a s f.acc f.sym)=selF a s f from rfl]
 split
 ·split
  ·unfold sgnF addW sideW
   cases f.buy<;>simp<;>omega
  ·unfold sgnF sideW
   cases f.buy<;>simp<;>omega
 ·exact ⟨Int.le_refl _,Int.le_refl _⟩
theorem ord_ge (a s:ByteArray) (o:Ord):0≤(ordW a s o).1∧0≤(ordW a s o).2:=by
 have:=NO.leftI_le o
 unfold ordW sideW
 split
 ·split<;>(dsimp only;omega)
 ·exact ⟨Int.le_refl _,Int.le_refl _⟩
theorem pnd_ge {a s:ByteArray} {o:Ord} (h:NO.mayB o=true):0≤(pndW a s o).1∧0≤(pndW a s o).2:=by
 have:=may_rng h
 unfold pndW sideW
 split
 ·split<;>(dsimp only;omega)
 ·exact ⟨Int.le_refl _,Int.le_refl _⟩
theorem of_ge {b:Bk} {a s:ByteArray} (h:bkP b):sgnS b a s≤(ofW b a s).1∧-sgnS b a s≤(ofW b a s).2:=by
 unfold sgnS
 rw[sum_filter]
 have k1:=sum_le _ (fun f=>(filW b a s f).1) b.fills fun f hf=>(fil_ge (b:=b) (a:=a) (s:=s) (h.fills f hf).1).1
 have k2:=sum_le _ (fun f=>(filW b a s f).2) b.fills fun f hf=>(fil_ge (b:=b) (a:=a) (s:=s) (h.fills f hf).1).2
 have n1:=sum_nn (b.ords.map fun o=>(ordW a s o).1) fun x hx=>by obtain ⟨o,_,rfl⟩:=List.mem_map.1 hx;exact (ord_ge a s o).1
 have n2:=sum_nn (b.ords.map fun o=>(ordW a s o).2) fun x hx=>by obtain ⟨o,_,rfl⟩:=List.mem_map.1 hx;exact (ord_ge a s o).2
 rw[sum_neg]
 unfold ofW addW
 have e1:=sumW_fst (b.fills.map (filW b a s))
 have e2:=sumW_fst (b.ords.map (ordW a s))
 rw[List.map_map,List.map_map]at e1 e2
 dsimp only
 rw[e1.1,e1.2,e2.1,e2.2]
 simp only[Function.comp_def]
 omega
theorem pend_ge {l:List Ord} {a s:ByteArray} (h:NO.rightB l=true):0≤(pendW l a s).1∧0≤(pendW l a s).2:=by
 have e:=sumW_fst (l.map (pndW a s))
 rw[List.map_map,List.map_map]at e
 unfold pendW
 rw[e.1,e.2]
 refine ⟨sum_nn _ fun x hx=>?_,sum_nn _ fun x hx=>?_⟩<;>(obtain ⟨o,ho,rfl⟩:=List.mem_map.1 hx)
 ·exact (pnd_ge (mem_may h o ho)).1
 ·exact (pnd_ge (mem_may h o ho)).2
theorem pos_worst {g:Gat} (h:gatP g) {p:NA.Pos} (hp:p∈posG g) (ho:p.over=false) (hno:∀l,l∈listsG g→∀x,x∈l→x.over=false) :
 p.qty≤(worstG g p.acc p.sym).1∧-p.qty≤(worstG g p.acc p.sym).2:=by
 rw[posG_eq]at hp
 have hv:=(NA.allF_is _).val p hp
 have ho2:=ho
 rw[hv]at ho2
 have hq:p.qty=(((listsG g).flatten.filter (NA.nm p.acc p.sym)).map (fun x=>x.qty)).sum:=by
  have:=tog_qty ho2
  rw[←hv]at this
  exact this
 generalize p.acc=a at hq hv
 generalize p.sym=s at hq hv
 rw[sum_flat]at hq
 unfold listsG at hq hno
 rw[List.map_map]at hq
 have e:(g.vens.map ((fun l=>((l.filter (NA.nm a s)).map (fun x=>x.qty)).sum) ∘ fun v=>lallF v.bk))=g.vens.map fun v=>sgnS v.bk a s :=
  List.map_congr_left fun v hv=>qty_lall v.bk a s (hno _ (List.mem_map.2 ⟨v,hv,rfl⟩))
 rw[e]at hq
 have w:=sumW_fst (g.vens.map fun v=>addW (ofW v.bk a s) (pendW v.sent a s))
 rw[List.map_map,List.map_map]at w
 unfold worstG
 rw[w.1,w.2,hq,sum_neg]
 refine ⟨sum_le _ _ _ fun v hv=>?_,sum_le _ _ _ fun v hv=>?_⟩
 ·have h1:=(of_ge (a:=a) (s:=s) (h.vens v hv).bk).1
  have h2:=(pend_ge (a:=a) (s:=s) (h.vens v hv).sent).1
  show sgnS v.bk a s≤(ofW v.bk a s).1+(pendW v.sent a s).1
  omega
 ·have h1:=(of_ge (a:=a) (s:=s) (h.vens v hv).bk).2
  have h2:=(pend_ge (a:=a) (s:=s) (h.vens v hv).sent).2
  show -sgnS v.bk a s≤(ofW v.bk a s).2+(pendW v.sent a s).2
  omega
end
def qMO1:=PLift.up (An @NA.getD_LR @NA.getD_pR)
theorem over_c (ls:List (List NA.Pos)) (h1:ls.length≤1000) (h2:∀l,l∈ls→l.length≤1000000) (r:Bool) (hr:ls.any NA.anyO=r):ACall Tryz.prog 14 [] [NA.LL ls] (B r) []:=by
 have hL:True:=trivial
 refine Ac Tryz.func14 ?_
 refine Wk (An @hL qMO1.1) trivial ?_
 refine AWp.loop (fun i:Nat=>mkSt [(0,NA.LL ls),(3,I i)] [] 0) (fun i=>i≤ls.length∧∀j,j<i→NA.anyO (ls.getD j default)=false) (fun i=>ls.length - i) 0 ⟨Nat.zero_le _,fun j hj=>absurd hj (Nat.not_lt_zero _)⟩ (by refine Le.of (τ:=[]) (ν:=[]) (by kernel_rfl) ?_ ?_<;>((refine Lv (An @hL qMO1.1) fun eE=>?_;first|exact Lw (@Box.out _ eE) trivial|refine Lw (@Box.out _ eE) ?_);try omega)) fun i hi=>?_
 obtain ⟨hi,hj⟩:=hi
 refine Wk (An @hL qMO1.1) trivial ?_
 refine Cc ?_ ?_<;>intro hc<;>(try simp only[Za,ne_eq]at hc)
 ·have hil:i<ls.length:=by omega
  obtain ⟨l,hL⟩:∃l,ls.getD i default=l:=⟨_,rfl⟩
  have hmem:l∈ls:=by rw[←hL];exact NA.mem_at hil
  have hll:=h2 l hmem
  refine Wk (An @hL qMO1.1) trivial ?_
  refine AWp.loop (fun k:Nat=>mkSt [(0,NA.LL ls),(3,I i),(4,I k)] [] 0) (fun k=>k≤l.length∧∀j,j<k→(l.getD j default).over=false) (fun k=>l.length - k) 0 ⟨Nat.zero_le _,fun j hj=>absurd hj (Nat.not_lt_zero _)⟩ (by refine Le.of (τ:=[]) (ν:=[]) (by kernel_rfl) ?_ ?_<;>((refine Lv (An @hL qMO1.1) fun eE=>?_;first|exact Lw (@Box.out _ eE) trivial|refine Lw (@Box.out _ eE) ?_);try omega)) fun k hk=>?_
  obtain ⟨hk,hkj⟩:=hk
  refine Wk (An @hL qMO1.1) trivial ?_
  refine Cc ?_ ?_<;>intro hc<;>(try simp only[Za,ne_eq]at hc)
  ·have hkl:k<l.length:=by omega
   refine Wk (An @hL qMO1.1) trivial ?_
   refine Cc ?_ ?_<;>intro hc<;>(try simp only[Za,ne_eq]at hc)
   ·have e:r=true:=by
     rw[←hr,List.any_eq_true]
     refine ⟨l,hmem,List.any_eq_true.2 ⟨l[k],List.getElem_mem hkl,?_⟩⟩
     rw[←NA.gp_el hkl];exact hc
    subst e
    refine Wk (An @hL qMO1.1) trivial ?_
    first|exact Fn @Tryz.results14 (An @hL qMO1.1) trivial|refine Fn @Tryz.results14 (An @hL qMO1.1) ?_
   ·refine Wk (An @hL qMO1.1) trivial ?_
    refine Zb (k+1) ⟨by omega,fun j hj=>by
     rcases (show j<k∨j=k by omega) with h|rfl
     ·exact hkj j h
     ·simpa using hc⟩ (by omega) (by refine Le.of (τ:=[]) (ν:=[]) (by kernel_rfl) ?_ ?_<;>((refine Lv (An @hL qMO1.1) fun eE=>?_;first|exact Lw (@Box.out _ eE) trivial|refine Lw (@Box.out _ eE) ?_);try omega))
  ·refine Wk (An @hL qMO1.1) trivial ?_
   have hno:NA.anyO l=false:=by
    unfold NA.anyO
    rw[List.any_eq_false]
    intro x hx
    obtain ⟨j,hj,rfl⟩:=List.getElem_of_mem hx
    have:=hkj j (by omega)
    rw[NA.gp_el hj]at this
    rw[this];decide
   refine Zb (i+1) ⟨by omega,fun j hj2=>by
    rcases (show j<i∨j=i by omega) with h|rfl
    ·exact hj j h
    ·rw[hL];exact hno⟩ (by omega) (by refine Le.of (τ:=[]) (ν:=[]) (by kernel_rfl) ?_ ?_<;>((refine Lv (An @hL qMO1.1) fun eE=>?_;first|exact Lw (@Box.out _ eE) trivial|refine Lw (@Box.out _ eE) ?_);try omega))
 ·have e:r=false:=by
   rw[←hr,List.any_eq_false]
   intro l hl
   obtain ⟨j,hj2,rfl⟩:=List.getElem_of_mem hl
   have:=hj j (by omega)
   rw[List.getD_eq_getElem?_getD,List.getElem?_eq_getElem hj2]at this
   rw[show NA.anyO ls[j]=false from this];decide
  subst e
  refine Wk (An @hL qMO1.1) trivial ?_
  first|exact Fn @Tryz.results14 (An @hL qMO1.1) trivial|refine Fn @Tryz.results14 (An @hL qMO1.1) ?_
theorem setV_len (g:Gat) (at_:Int) (v:Ven):(setV g at_ v).vens.length=g.vens.length:=List.length_set
theorem limit_len (g:Gat) (x:NA.Lim):(limitG g x).1.vens.length=g.vens.length:=by unfold limitG;split<;>rfl
theorem ask_len (g:Gat) (a:Ask):(askG g a).1.vens.length=g.vens.length:=by
 unfold askG
 split
 ·unfold orderG
  repeat' split
  all_goals first|rfl|exact setV_len _ _ _
 ·split
  ·unfold changeG
   repeat' split
   all_goals first|rfl|exact setV_len _ _ _
  ·split
   ·unfold toldG
    repeat' split
    all_goals first|rfl|exact setV_len _ _ _
   ·split
    ·unfold tickG
     split<;>rfl
    ·split
     ·rfl
     ·split
      ·unfold gapG
       split<;>first|rfl|exact setV_len _ _ _
      ·split
       ·unfold resetG
        repeat' split
        all_goals first|rfl|exact setV_len _ _ _
       ·split
        ·exact limit_len _ _
        ·rfl
theorem do_len (k:Kee) (g:Gat) (a:Ask):(doK k g a).1.2.vens.length=g.vens.length:=by
 unfold doK
 split
 ·rfl
 ·split
  ·rfl
  ·split
   ·rfl
   ·exact ask_len g a
end Eng
end Go.Proofs.YtgenjpingdkmgaaGreatDoor
namespace Go.Proofs.YtgenjpingdkmgaaGreatDoor
def layJoin_ren:Go.Shelf.Ren:=⟨fun|156=>240|165=>273|166=>274|169=>275|240=>303|241=>304|276=>331|277=>332|n=>n,fun|0=>0|2=>2|3=>3|4=>4|5=>5|9=>9|20=>20|31=>56|37=>24|70=>368|72=>370|75=>365|76=>371|127=>392|164=>414|80=>373|n=>n,fun|n=>n⟩
theorem layJoin:Lays.n156 Tryz.prog layJoin_ren where
 mixed:=by kernel_rfl
 f156:=Tryz.func240.trans (congrArg some (by kernel_rfl))
 f165:=Tryz.func273.trans (congrArg some (by kernel_rfl))
 f166:=Tryz.func274.trans (congrArg some (by kernel_rfl))
 f169:=Tryz.func275.trans (congrArg some (by kernel_rfl))
 f240:=Tryz.func303.trans (congrArg some (by kernel_rfl))
 f241:=Tryz.func304.trans (congrArg some (by kernel_rfl))
 f276:=Tryz.func331.trans (congrArg some (by kernel_rfl))
 f277:=Tryz.func332.trans (congrArg some (by kernel_rfl))
 t0:=Tryz.underlying0
 a0:=Tryz.isAgg0
 z0:=Tryz.sizeOf0
 v0:=Tryz.zeroValue0
 t3:=Tryz.underlying3
 a3:=Tryz.isAgg3
 z3:=Tryz.sizeOf3
 v3:=Tryz.zeroValue3
 t4:=Tryz.underlying4
 a4:=Tryz.isAgg4
 z4:=Tryz.sizeOf4
 v4:=Tryz.zeroValue4
 t9:=Tryz.underlying9
 a9:=Tryz.isAgg9
 z9:=Tryz.sizeOf9
 v9:=Tryz.zeroValue9
 t20:=Tryz.underlying20
 a20:=Tryz.isAgg20
 z20:=Tryz.sizeOf20
 v20:=Tryz.zeroValue20
 t31:=Tryz.underlying56
 a31:=Tryz.isAgg56
 z31:=Tryz.sizeOf56
 v31:=Tryz.zeroValue56
 t37:=Tryz.underlying24
 a37:=Tryz.isAgg24
 z37:=Tryz.sizeOf24
 v37:=Tryz.zeroValue24
 t70:=Tryz.underlying368
 a70:=Tryz.isAgg368
 z70:=Tryz.sizeOf368
 v70:=Tryz.zeroValue368
 t72:=Tryz.underlying370
 a72:=Tryz.isAgg370
 z72:=Tryz.sizeOf370
 v72:=Tryz.zeroValue370
 t75:=Tryz.underlying365
 a75:=Tryz.isAgg365
 z75:=Tryz.sizeOf365
 v75:=Tryz.zeroValue365
 t76:=Tryz.underlying371
 a76:=Tryz.isAgg371
 z76:=Tryz.sizeOf371
 v76:=Tryz.zeroValue371
 t127:=Tryz.underlying392
 a127:=Tryz.isAgg392
 z127:=Tryz.sizeOf392
 v127:=Tryz.zeroValue392
 t164:=Tryz.underlying414
 a164:=Tryz.isAgg414
 z164:=Tryz.sizeOf414
 v164:=Tryz.zeroValue414
theorem extraJoin:Builder.Extra Tryz.prog layJoin_ren where
 sizeBuilder:=by kernel_rfl
 liesBuilder:=by kernel_rfl
 t5:=Tryz.underlying5
 a5:=Tryz.isAgg5
 z5:=Tryz.sizeOf5
 v5:=Tryz.zeroValue5
 infoByte:=by kernel_rfl
 cellsByte:=by kernel_rfl
 sizeByte:=by kernel_rfl
 neB5:=by decide
namespace Eng
open Go.RowKit
theorem rep_strs {w:World} {ow:Nat→Prop} {l:List ByteArray} {sl:Value} (hsl:RepV w ow (ssV l) sl):(l=[]∧∃a c,sl=.slice a 0 c) ∨
 ∃b off c,sl=.slice (some ⟨b,off,none⟩) l.length c∧b<w.heap.size∧l.length≤c∧∀(j:Nat) x,l[j]?=some x→w.cell? ⟨b,off+j,none⟩=some (.string x):=by
 obtain ⟨a,cap,rfl,hcp,hz,hcl⟩:∃(a:Option Addr) (cap:Nat),sl=.slice a l.length cap∧l.length≤cap∧(a=none→l=[])∧(∀ad,a=some ad→∀j (h:j<l.length),w.cell? (ad.add j)=some (.string (l.getD j default))):=by
  cases hsl with
  | s _ _ a n c g hn hk hz hcap hc hr =>
   have hn:n=l.length:=by simpa using hn
   subst hn
   refine ⟨a,c,rfl,hcap,fun h=>by simpa using hz h,fun ad had j hj=>?_⟩
   have e1:(l.map fun s=>[V.x (.string s)])[j]?=some [V.x (.string (l.getD j default))]:=by simp[hj]
   have h1:=(hc ad had j _ 0 _ e1 rfl).1
   have h2:=hr j _ 0 _ e1 rfl
   have e2:g j 0=.string (l.getD j default):=by
    generalize g j 0=u at h2
    cases h2
    rfl
   rw[←e2]
   simpa using h1
 rcases Nat.eq_zero_or_pos l.length with h0|h0
 ·have:l=[]:=List.length_eq_zero_iff.1 h0
  subst this
  exact .inl ⟨rfl,_,_,rfl⟩
 ·right
  cases a with
  | none=>have:=hz rfl;subst this;simp at h0
  | some ad =>
   obtain ⟨b,off,sp⟩:=ad
   have h00:=hcl _ rfl 0 h0
   have hsp:sp=none:=by
    unfold World.cell? Addr.add at h00
    simp only[if_true]at h00
    split at h00
    ·cases sp with
     | none=>rfl
     | some _=>simp at h00
    ·cases h00
   subst hsp
   refine ⟨b,off,cap,rfl,?_,hcp,fun j x hj=>?_⟩
   ·have:=World.block_lt_of_cell? _ _ h00
    rwa [Yg]at this
   ·obtain ⟨hjl,hjx⟩:=List.getElem?_eq_some_iff.1 hj
    have:=hcl _ rfl j hjl
    have e:(⟨b,off,none⟩:Addr).add j=⟨b,off+j,none⟩:=by
     unfold Addr.add
     split
     ·rename_i h;subst h;rfl
     ·rfl
    rw[e]at this
    rw[this,List.getD_eq_getElem?_getD,hj];rfl
def joinS (l:List ByteArray) (sep:ByteArray):ByteArray:=⟨(Lib.join (l.map (·.data.toList)) sep.data.toList).toArray⟩
theorem join_c (l:List ByteArray) (sep:ByteArray) (hl:l.length≤1000) (hj:(joinS l sep).size≤1000000):ACall Tryz.prog 240 [] [ssD l,StD sep] (StD (joinS l sep)) []:=by
 refine NU.acall_raw ⟨_,Tryz.func240,by kernel_rfl,by kernel_rfl⟩ fun w vs ow ρ hG ha=>?_
 match vs,ha with
 | [a,b],⟨h2,h3,_⟩ =>
  obtain ⟨rfl,_⟩:=rep_x (v:=.string sep) h3
  rcases rep_strs (show RepV w _ (ssV l) a from h2) with ⟨rfl,ad,c,rfl⟩|⟨b,off,c,rfl,hb,hc,hx⟩
  ·refine (Any.strings_Join_none layJoin extraJoin ad c sep w).mono ?_
   rintro e w' ⟨rfl,rfl⟩
   exact ⟨_,rfl,Below.refl _ _,fun _ _=>RepV.x _ rfl⟩
  ·have hj2:(Lib.join (l.map (·.data.toList)) sep.data.toList).length≤140737488355328:=by
    have:(joinS l sep).size=(Lib.join (l.map (·.data.toList)) sep.data.toList).length:=rfl
    omega
   refine (Any.strings_Join layJoin extraJoin b off c l sep w hx hb (by omega) hc hj2).mono ?_
   rintro e w' ⟨rfl,hw⟩
   exact ⟨_,rfl,hw,fun _ _=>RepV.x _ rfl⟩
end Eng
end Go.Proofs.YtgenjpingdkmgaaGreatDoor
namespace Go.Proofs.YtgenjpingdkmgaaGreatDoor
def layIt_ren:Go.Shelf.Ren:=⟨fun|173=>202|246=>248|283=>283|284=>284|285=>285|286=>286|129=>172|317=>310|318=>311|319=>312|320=>313|337=>334|338=>335|171=>242|243=>279|n=>n,fun|2=>2|3=>3|9=>9|4=>4|171=>380|0=>0|53=>209|37=>24|5=>5|173=>382|212=>396|51=>246|20=>20|213=>397|46=>192|232=>426|233=>427|n=>n,fun|17=>3|18=>8|19=>9|n=>n⟩
theorem layIt:Lays.n171 Tryz.prog layIt_ren where
 mixed:=by kernel_rfl
 f129:=Tryz.func172.trans (congrArg some (by kernel_rfl))
 f171:=Tryz.func242.trans (congrArg some (by kernel_rfl))
 f243:=Tryz.func279.trans (congrArg some (by kernel_rfl))
 f246:=Tryz.func248.trans (congrArg some (by kernel_rfl))
 f283:=Tryz.func283.trans (congrArg some (by kernel_rfl))
 f284:=Tryz.func284.trans (congrArg some (by kernel_rfl))
 f285:=Tryz.func285.trans (congrArg some (by kernel_rfl))
 f286:=Tryz.func286.trans (congrArg some (by kernel_rfl))
 f317:=Tryz.func310.trans (congrArg some (by kernel_rfl))
 f318:=Tryz.func311.trans (congrArg some (by kernel_rfl))
 f319:=Tryz.func312.trans (congrArg some (by kernel_rfl))
 f320:=Tryz.func313.trans (congrArg some (by kernel_rfl))
 f337:=Tryz.func334.trans (congrArg some (by kernel_rfl))
 f338:=Tryz.func335.trans (congrArg some (by kernel_rfl))
 t0:=Tryz.underlying0
 a0:=Tryz.isAgg0
 z0:=Tryz.sizeOf0
 v0:=Tryz.zeroValue0
 t2:=Tryz.underlying2
 a2:=Tryz.isAgg2
 z2:=Tryz.sizeOf2
 v2:=Tryz.zeroValue2
 t3:=Tryz.underlying3
 a3:=Tryz.isAgg3
 z3:=Tryz.sizeOf3
 v3:=Tryz.zeroValue3
 t4:=Tryz.underlying4
 a4:=Tryz.isAgg4
 z4:=Tryz.sizeOf4
 v4:=Tryz.zeroValue4
 t5:=Tryz.underlying5
 a5:=Tryz.isAgg5
 z5:=Tryz.sizeOf5
 v5:=Tryz.zeroValue5
 t9:=Tryz.underlying9
 a9:=Tryz.isAgg9
 z9:=Tryz.sizeOf9
 v9:=Tryz.zeroValue9
 t20:=Tryz.underlying20
 a20:=Tryz.isAgg20
 z20:=Tryz.sizeOf20
 v20:=Tryz.zeroValue20
 t37:=Tryz.underlying24
 a37:=Tryz.isAgg24
 z37:=Tryz.sizeOf24
 v37:=Tryz.zeroValue24
 t46:=Tryz.underlying192
 a46:=Tryz.isAgg192
 z46:=Tryz.sizeOf192
 v46:=Tryz.zeroValue192
 t51:=Tryz.underlying246
 a51:=Tryz.isAgg246
 z51:=Tryz.sizeOf246
 v51:=Tryz.zeroValue246
 t53:=Tryz.underlying209
 a53:=Tryz.isAgg209
 z53:=Tryz.sizeOf209
 v53:=Tryz.zeroValue209
 t171:=Tryz.underlying380
 a171:=Tryz.isAgg380
 z171:=Tryz.sizeOf380
 v171:=Tryz.zeroValue380
 t173:=Tryz.underlying382
 a173:=Tryz.isAgg382
 z173:=Tryz.sizeOf382
 v173:=Tryz.zeroValue382
 t212:=Tryz.underlying396
 a212:=Tryz.isAgg396
 z212:=Tryz.sizeOf396
 v212:=Tryz.zeroValue396
 t213:=Tryz.underlying397
 a213:=Tryz.isAgg397
 z213:=Tryz.sizeOf397
 t232:=Tryz.underlying426
 a232:=Tryz.isAgg426
 z232:=Tryz.sizeOf426
 v232:=Tryz.zeroValue426
 t233:=Tryz.underlying427
 a233:=Tryz.isAgg427
 z233:=Tryz.sizeOf427
 v233:=Tryz.zeroValue427
 g17:=by kernel_rfl
 g18:=by kernel_rfl
 g19:=by kernel_rfl
namespace Eng
open Go.RowKit
theorem itoa_c (i:Nat) (hi:i<100):ACall Tryz.prog 242 [] [I i] (StD ⟨(Lib.decDigits i).toArray⟩) []:=by
 refine NU.acall_raw ⟨_,Tryz.func242,by kernel_rfl,by kernel_rfl⟩ fun w vs ow ρ hG ha=>?_
 match vs,ha with
 | [a],⟨h2,_⟩ =>
  obtain ⟨rfl,_⟩:=rep_x (v:=.int .i64 i) h2
  refine (Any.strconv_Itoa_small layIt i hi w).mono ?_
  rintro e w2 ⟨rfl,rfl⟩
  exact ⟨_,rfl,Below.refl _ _,fun _ _=>RepV.x _ rfl⟩
end Eng
end Go.Proofs.YtgenjpingdkmgaaGreatDoor
namespace Go.Proofs.YtgenjpingdkmgaaGreatDoor
namespace Eng
section
open NU
theorem ctS_x (s:ByteArray) (c:UInt8):XCall Tryz.prog 232 [] [StD s,u8D c] (I (s.data.toList.count c)) []:=by
 intro own0 w ρ vs hm ha
 match vs,ha with
 | [a,b],⟨h1,h2,_⟩ =>
  obtain ⟨rfl,_⟩:=rep_x h1
  obtain ⟨rfl,_⟩:=rep_x h2
  refine ⟨.int .i64 (s.data.toList.count c),ρ,?_,Sub.refl _,rep_x_mk rfl,hm⟩
  show (callFunc 232 #[.string s,.int .u8 (c.toNat:Int)]).run Tryz.prog w=_
  rw[run_callFunc_extern Tryz.func232 (by kernel_rfl) (by kernel_rfl) (by kernel_rfl) (e:=Extern.BytealgCount.count) (by kernel_rfl),Lib.run_countString,u8_back]
  rfl
theorem ixS_x (s:ByteArray) (c:UInt8):XCall Tryz.prog 282 [] [StD s,u8D c] (I (Lib.indexByte s.data.toList c)) []:=by
 intro own0 w ρ vs hm ha
 match vs,ha with
 | [a,b],⟨h1,h2,_⟩ =>
  obtain ⟨rfl,_⟩:=rep_x h1
  obtain ⟨rfl,_⟩:=rep_x h2
  refine ⟨.int .i64 (Lib.indexByte s.data.toList c),ρ,?_,Sub.refl _,rep_x_mk rfl,hm⟩
  show (callFunc 282 #[.string s,.int .u8 (c.toNat:Int)]).run Tryz.prog w=_
  rw[run_callFunc_extern Tryz.func282 (by kernel_rfl) (by kernel_rfl) (by kernel_rfl) (e:=Extern.BytealgIndexByte.indexByte) (by kernel_rfl),Lib.run_indexByteString,u8_back]
  rfl
theorem ixS_c (s:ByteArray) (c:UInt8):ACall Tryz.prog 247 [] [StD s,u8D c] (I (Lib.indexByte s.data.toList c)) []:=by
 have hix:=ixS_x s c
 refine Ac Tryz.func247 ?_
 refine Wk trivial @hix ?_
 first|exact Fn @Tryz.results247 trivial trivial|refine Fn @Tryz.results247 trivial ?_
def oneS (c:UInt8):ByteArray:=str [c]
theorem countS_c (s:ByteArray) (c:UInt8):ACall Tryz.prog 184 [] [StD s,StD (oneS c)] (I (s.data.toList.count c)) []:=by
 have hcx:=ctS_x s c
 have hz:((oneS c).size:Int)=1:=rfl
 refine Ac Tryz.func184 ?_
 refine Wk trivial @hcx ?_
 refine Cc ?_ ?_<;>intro hc<;>(try simp only[Za,ne_eq]at hc)
 ·omega
 ·refine Wk trivial @hcx ?_
  refine Cc ?_ ?_<;>intro hc<;>(try simp only[Za,ne_eq]at hc)
  ·refine Wk trivial @hcx ?_
   first|exact Fn @Tryz.results184 trivial trivial|refine Fn @Tryz.results184 trivial ?_
  ·omega
theorem indexL_c (s:ByteArray) (c:UInt8):ACall Tryz.prog 268 [] [StD s,StD (oneS c)] (I (Lib.indexByte s.data.toList c)) []:=by
 have hi1:=ixS_c s c
 have hz:((oneS c).size:Int)=1:=rfl
 refine Ac Tryz.func268 ?_
 refine Wk trivial @hi1 ?_
 refine Cc ?_ ?_<;>intro hc<;>(try simp only[Za,ne_eq]at hc)
 ·have e:Lib.indexByte s.data.toList c=0:=by
   rcases hc with hc|hc
   ·omega
   ·have h:s.data.toList=[c]:=hc.symm
    rw[h];simp[Lib.indexByte]
  rw[e]
  refine Wk trivial @hi1 ?_
  first|exact Fn @Tryz.results268 trivial trivial|refine Fn @Tryz.results268 trivial ?_
 ·refine Wk trivial @hi1 ?_
  refine Cc ?_ ?_<;>intro hc<;>(try simp only[Za,ne_eq]at hc)
  ·refine Wk trivial @hi1 ?_
   first|exact Fn @Tryz.results268 trivial trivial|refine Fn @Tryz.results268 trivial ?_
  ·omega
theorem indexT_c (s:ByteArray) (c:UInt8):ACall Tryz.prog 233 [] [StD s,StD (oneS c)] (I (Lib.indexByte s.data.toList c)) []:=by
 have hi1:=indexL_c s c
 refine Ac Tryz.func233 ?_
 refine Wk trivial @hi1 ?_
 first|exact Fn @Tryz.results233 trivial trivial|refine Fn @Tryz.results233 trivial ?_
def splL (c:UInt8):List UInt8→List (List UInt8)
 | []=>[[]]
 | b::l=>if b=c then []::splL c l else match splL c l with
  | []=>[[b]]
  | x::r=>(b::x)::r
theorem splL_ne (c:UInt8) (l:List UInt8):splL c l≠[]:=by
 cases l with
 | nil=>simp[splL]
 | cons b l=>unfold splL;split
             ·simp
             ·split<;>simp
theorem splL_none {c:UInt8}:∀ {l:List UInt8},l.count c=0→splL c l=[l]
 | [],_=>rfl
 | b::l,h=>by
  have hb:b≠c:=fun e=>by subst e;simp at h
  rw[List.count_cons_of_ne hb]at h
  unfold splL
  rw[if_neg hb,splL_none h]
theorem splL_hit (c:UInt8) (l:List UInt8):splL c (c::l)=[]::splL c l:=by simp[splL]
theorem splL_miss {c b:UInt8} {l x:List UInt8} {r:List (List UInt8)} (h:b≠c) (hs:splL c l=x::r):splL c (b::l)=(b::x)::r:=by simp[splL,h,hs]
theorem splL_at {c:UInt8}:∀ {l:List UInt8} {q:Nat},q<l.length→(l.take q).count c=0→l.getD q 0=c→splL c l=l.take q::splL c (l.drop (q+1))
 | [],q,h,_,_=>by simp at h
 | b::l,0,_,_,h=>by
  have:b=c:=h
  subst this
  exact splL_hit b l
 | b::l,q+1,h1,h2,h3=>by
  have hb:b≠c:=fun e=>by subst e;simp[List.take_succ_cons]at h2
  rw[List.take_succ_cons,List.count_cons_of_ne hb]at h2
  have ih:=splL_at (c:=c) (l:=l) (q:=q) (by simpa using h1) h2 (by simpa using h3)
  exact splL_miss hb ih
theorem splL_len (c:UInt8):∀l:List UInt8,(splL c l).length=l.count c+1
 | []=>rfl
 | b::l=>by
  have ih:=splL_len c l
  unfold splL
  split
  ·rename_i h;subst h;simp[ih]
  ·rename_i h
   rw[List.count_cons_of_ne h]
   have hne:=splL_ne c l
   cases hs:splL c l with
   | nil=>exact absurd hs hne
   | cons x r=>rw[hs]at ih;simpa using ih
theorem count_at {c:UInt8} {l:List UInt8} {q:Nat} (h1:q<l.length) (h2:(l.take q).count c=0) (h3:l.getD q 0=c):(l.drop (q+1)).count c+1=l.count c:=by
 have:=splL_at h1 h2 h3
 have a:=splL_len c l
 rw[this,List.length_cons,splL_len]at a
 omega
abbrev rowS (ps:List (List UInt8)) (n:Nat):List (List V):=(ps.map fun p=>[vS (str p)])++List.replicate (n - ps.length) [vS ⟨#[]⟩]
theorem rowS_set (ps:List (List UInt8)) (n:Nat) (p:List UInt8) (h:ps.length<n):(rowS ps n).set ps.length [vS (str p)]=rowS (ps++[p]) n:=by
 unfold rowS
 obtain ⟨m,hm⟩:∃m,n - ps.length=m+1:=⟨n - ps.length - 1,by omega⟩
 rw[hm,List.replicate_succ,List.set_append_right _ _ (by simp),List.length_map,Nat.sub_self,List.set_cons_zero,List.map_append,List.length_append,List.length_singleton,show n - (ps.length+1)=m by omega,List.append_assoc]
 rfl
theorem rowS_put (ps:List (List UInt8)) (n:Nat) (p:List UInt8) (h:ps.length<n):(rowS ps n).set ps.length (vS (str p)::List.drop 1 ((rowS ps n).getD ps.length []))=rowS (ps++[p]) n:=by
 have e:List.drop 1 ((rowS ps n).getD ps.length [])=[]:=by
  obtain ⟨m,hm⟩:∃m,n - ps.length=m+1:=⟨n - ps.length - 1,by omega⟩
  unfold rowS
  rw[hm,List.replicate_succ,List.getD_eq_getElem?_getD,List.getElem?_append_right (by simp)]
  simp
 rw[e];exact rowS_set ps n p h
theorem rowS_len (ps:List (List UInt8)) (n:Nat) (h:ps.length≤n):(rowS ps n).length=n:=by simp[rowS];omega
def qST1:=PLift.up (An @NU.str_ext @rowS_len)
theorem split_c (l:List UInt8) (c:UInt8) (hl:l.length≤100000):ACall Tryz.prog 185 [] [StD (str l),StD (oneS c),I 0,I (-1)] (ssD ((splL c l).map str)) []:=by
 have hcnt:=countS_c (str l) c
 obtain ⟨m,hm⟩:∃m,l.count c=m:=⟨_,rfl⟩
 have hml:m≤l.length:=by rw[←hm];exact List.count_le_length
 have e0:(str l).data.toList.count c=m:=hm
 rw[e0]at hcnt
 have hz:((oneS c).size:Int)=1:=rfl
 have hzl:(((str l).size:Nat):Int)=l.length:=rfl
 have hmin:(if ((str l).size:Int)+1<(m:Int)+1 then ((str l).size:Int)+1 else (m:Int)+1)=(m:Int)+1:=if_neg (by omega)
 have hnat:((m:Int)+1).toNat=m+1:=by omega
 refine Ac Tryz.func185 ?_
 refine Wk (An @hnat (An @hmin qST1.1)) @hcnt ?_
 refine Cc ?_ ?_<;>intro hc<;>(try simp only[Za,ne_eq]at hc)
 ·contradiction
 ·refine Wk (An @hnat (An @hmin qST1.1)) @hcnt ?_
  refine Cc ?_ ?_<;>intro hc<;>(try simp only[Za,ne_eq]at hc)
  ·exact absurd hc (by simp[oneS])
  ·refine Wk (An @hnat (An @hmin qST1.1)) @hcnt ?_
   refine Cc ?_ ?_<;>intro hc<;>(try simp only[Za,ne_eq]at hc)
   ·refine Wk (An @hnat (An @hmin qST1.1)) @hcnt ?_
    refine AWp.loop (fun s:List (List UInt8)×List UInt8=>mkSt [(0,StD (str s.2)),(1,StD (oneS c)),(2,I 0),(3,I m),(9,.e (.c (.o 0 (m+1)))),(10,I s.1.length)] [(0,.row 1 (rowS s.1 (m+1)))] 1)
     (fun s=>s.1.length+s.2.count c=m∧s.1++splL c s.2=splL c l∧s.2.length≤l.length) (fun s=>m - s.1.length) ([],l) ⟨by simpa using hm,rfl,Nat.le_refl _⟩ (by refine Le.of (τ:=[(0,1216)]) (ν:=[]) (by kernel_rfl) ?_ ?_<;>((refine Lv (An @hnat (An @hmin qST1.1)) fun eE=>?_;first|exact Lw (@Box.out _ eE) trivial|refine Lw (@Box.out _ eE) ?_);try (first|omega|rfl|exact ⟨by omega,rfl⟩))) fun s hs=>?_
    obtain ⟨ps,r⟩:=s
    obtain ⟨h1,h2,h3⟩:=hs
    dsimp only at h1 h2 h3 ⊢
    refine Wk (An @hnat (An @hmin qST1.1)) @hcnt ?_
    refine Cc ?_ ?_<;>intro hc<;>(try simp only[Za,ne_eq]at hc)
    ·obtain ⟨q,hq1,hq2,hq3,hq4⟩:=index_spec c r (by omega)
     have hidx:=indexT_c (str r) c
     have e2:Lib.indexByte (str r).data.toList c=q:=hq1
     rw[e2]at hidx
     have hzr:(((str r).size:Nat):Int)=r.length:=rfl
     refine Wk (An @hnat (An @hmin qST1.1)) (An @hcnt @hidx) ?_
     refine Cc ?_ ?_<;>intro hc<;>(try simp only[Za,ne_eq]at hc)
     ·omega
     ·refine Wk (An @hnat (An @hmin qST1.1)) (An @hcnt @hidx) ?_
      have hp1:(((q:Int)+0).toNat - 0)=q:=by omega
      have hp2:((q:Int)+((oneS c).size:Int)).toNat=q+1:=by omega
      have hp3:List.take ((str r).size - (q+1)) (List.drop (q+1) r)=r.drop (q+1):=List.take_of_length_le (by rw[List.length_drop];exact Nat.le_refl _)
      simp only[hp1,hp2,hp3,rowS_put ps (m+1) _ (by omega)]
      refine Zb (ps++[r.take q],r.drop (q+1)) ⟨?_,?_,?_⟩ ?_ (by refine Le.of (τ:=[]) (ν:=[]) (by kernel_rfl) ?_ ?_<;>((refine Lv (An @hnat (An @hmin qST1.1)) fun eE=>?_;first|exact Lw (@Box.out _ eE) trivial|refine Lw (@Box.out _ eE) ?_);try (first|omega|rfl|(simp;done)|(simp;omega))))
      ·have:=count_at hq2 hq3 hq4
       simp only[List.length_append,List.length_singleton];omega
      ·rw[←h2,splL_at hq2 hq3 hq4];simp
      ·simp only[List.length_drop];omega
      ·simp only[List.length_append,List.length_singleton];omega
    ·refine Wk (An @hnat (An @hmin qST1.1)) @hcnt ?_
     simp only[rowS_put ps (m+1) _ (show ps.length<m+1 by omega)]
     have e3:ps++[r]=splL c l:=by rw[←h2,splL_none (by omega)]
     have e4:rowS (ps++[r]) (m+1)=(splL c l).map fun p=>[vS (str p)]:=by
      unfold rowS
      rw[e3,splL_len,hm];simp
     rw[e4]
     first|exact Fn @Tryz.results185 (An @hnat (An @hmin qST1.1)) trivial|refine Fn @Tryz.results185 (An @hnat (An @hmin qST1.1)) ?_
     have hsl:(splL c l).length=m+1:=by rw[splL_len,hm]
     exact ⟨by rw[List.take_of_length_le (by rw[List.length_map,hsl];omega)];exact List.map_map,by omega⟩
   ·contradiction
theorem split2_c (l:List UInt8) (c:UInt8) (hl:l.length≤100000):ACall Tryz.prog 133 [] [StD (str l),StD (oneS c)] (ssD ((splL c l).map str)) []:=by
 have hsp:=split_c l c hl
 refine Ac Tryz.func133 ?_
 refine Wk qST1.1 @hsp ?_
 first|exact Fn @Tryz.results133 qST1.1 trivial|refine Fn @Tryz.results133 qST1.1 ?_
end
section
open NU
def asksL:List (List UInt8):=[[],[111,114,100,101,114],[99,104,97,110,103,101],[116,111,108,100],[116,105,99,107],[107,105,108,108],[103,97,112],[114,101,115,101,116],[108,105,109,105,116]]
def execsL:List (List UInt8):=[[],[110,101,119],[102,105,108,108],[99,97,110,99,101,108],[114,101,112,108,97,99,101],[114,101,106,101,99,116],[101,120,112,105,114,101],[98,117,115,116],[99,111,114,114,101,99,116]]
theorem gT1:List.lookup 1 globT=some (asksL.map fun s=>Value.string (str s)):=by rfl
theorem gT2:List.lookup 2 globT=some (execsL.map fun s=>Value.string (str s)):=by rfl
def qTP1:=PLift.up (An @gT1 @gT2)
theorem choose_c (b:Bool) (x y:ByteArray):ACall Tryz.prog 333 [] [B b,StD x,StD y] (StD (if b then x else y)) []:=by
 refine Ac Tryz.func333 ?_
 cases b
 ·refine Wk qTP1.1 trivial ?_
  refine Cc ?_ ?_<;>intro hc<;>(try simp only[Za,ne_eq]at hc)
  ·contradiction
  ·refine Wk qTP1.1 trivial ?_
   first|exact Fn @Tryz.results333 qTP1.1 trivial|refine Fn @Tryz.results333 qTP1.1 ?_
 ·refine Wk qTP1.1 trivial ?_
  refine Cc ?_ ?_<;>intro hc<;>(try simp only[Za,ne_eq]at hc)
  ·refine Wk qTP1.1 trivial ?_
   first|exact Fn @Tryz.results333 qTP1.1 trivial|refine Fn @Tryz.results333 qTP1.1 ?_
  ·contradiction
abbrev tabC (t:Nat→ByteArray):List C:=[.v (vS (t 0)),.v (vS (t 1)),.v (vS (t 2)),.v (vS (t 3)),.v (vS (t 4)),.v (vS (t 5)),.v (vS (t 6)),.v (vS (t 7)),.v (vS (t 8))]
def placeL (t:Nat→ByteArray) (s:ByteArray):Nat→Nat→Int
 | 0,_=>0
 | k+1,i=>if (t i).data.toList=s.data.toList then i else placeL t s k (i+1)
theorem Yt (t:Nat→ByteArray) (s:ByteArray) (k i:Nat) (h:(t i).data.toList=s.data.toList):placeL t s (k+1) i=i:=if_pos h
theorem Yu (t:Nat→ByteArray) (s:ByteArray) (k i:Nat) (h:¬(t i).data.toList=s.data.toList):placeL t s (k+1) i=placeL t s k (i+1):=if_neg h
theorem place_c (t:Nat→ByteArray) (s:ByteArray) (r:Int) (hr:placeL t s 8 1=r):ACall Tryz.prog 276 [] [.e (.a (tabC t)),StD s] (I r) []:=by
 refine Ac Tryz.func276 ?_
 refine Wk qTP1.1 trivial ?_
 refine AWp.loop (fun i:Nat=>mkSt [(1,StD s),(2,.p 0 0),(5,I i)] [(0,.loc (tabC t))] 1) (fun i=>1≤i∧i≤9∧placeL t s (9 - i) i=r) (fun i=>9 - i) 1 ⟨Nat.le_refl _,by omega,hr⟩ (by refine Le.of (τ:=[]) (ν:=[]) (by kernel_rfl) ?_ ?_<;>((first|exact Lw qTP1.1 trivial|refine Lw qTP1.1 ?_);try (first|omega|rfl|exact ⟨rfl,rfl⟩))) fun i hi=>?_
 obtain ⟨h1,h9,hp⟩:=hi
 have hi:i=1∨i=2∨i=3∨i=4∨i=5∨i=6∨i=7∨i=8∨i=9:=by omega
 rcases hi with rfl|rfl|rfl|rfl|rfl|rfl|rfl|rfl|rfl
 ·refine Wk qTP1.1 trivial ?_
  refine Cc ?_ ?_<;>intro hc<;>(try simp only[Za,ne_eq]at hc)
  ·refine Wk qTP1.1 trivial ?_
   refine Cc ?_ ?_<;>intro hc<;>(try simp only[Za,ne_eq]at hc)
   ·have e:r=1:=hp.symm.trans (Yt t s 7 1 hc)
    subst e
    refine Wk qTP1.1 trivial ?_
    first|exact Fn @Tryz.results276 qTP1.1 trivial|refine Fn @Tryz.results276 qTP1.1 ?_
   ·refine Wk qTP1.1 trivial ?_
    refine Zb 2 ⟨by omega,by omega,(Yu t s 7 1 hc).symm.trans hp⟩ (by omega) (by refine Le.of (τ:=[]) (ν:=[]) (by kernel_rfl) ?_ ?_<;>((first|exact Lw qTP1.1 trivial|refine Lw qTP1.1 ?_);try omega))
  ·omega
 ·refine Wk qTP1.1 trivial ?_
  refine Cc ?_ ?_<;>intro hc<;>(try simp only[Za,ne_eq]at hc)
  ·refine Wk qTP1.1 trivial ?_
   refine Cc ?_ ?_<;>intro hc<;>(try simp only[Za,ne_eq]at hc)
   ·have e:r=2:=hp.symm.trans (Yt t s 6 2 hc)
    subst e
    refine Wk qTP1.1 trivial ?_
    first|exact Fn @Tryz.results276 qTP1.1 trivial|refine Fn @Tryz.results276 qTP1.1 ?_
   ·refine Wk qTP1.1 trivial ?_
    refine Zb 3 ⟨by omega,by omega,(Yu t s 6 2 hc).symm.trans hp⟩ (by omega) (by refine Le.of (τ:=[]) (ν:=[]) (by kernel_rfl) ?_ ?_<;>((first|exact Lw qTP1.1 trivial|refine Lw qTP1.1 ?_);try omega))
  ·omega
 ·refine Wk qTP1.1 trivial ?_
  refine Cc ?_ ?_<;>intro hc<;>(try simp only[Za,ne_eq]at hc)
  ·refine Wk qTP1.1 trivial ?_
   refine Cc ?_ ?_<;>intro hc<;>(try simp only[Za,ne_eq]at hc)
   ·have e:r=3:=hp.symm.trans (Yt t s 5 3 hc)
    subst e
    refine Wk qTP1.1 trivial ?_
    first|exact Fn @Tryz.results276 qTP1.1 trivial|refine Fn @Tryz.results276 qTP1.1 ?_
   ·refine Wk qTP1.1 trivial ?_
    refine Zb 4 ⟨by omega,by omega,(Yu t s 5 3 hc).symm.trans hp⟩ (by omega) (by refine Le.of (τ:=[]) (ν:=[]) (by kernel_rfl) ?_ ?_<;>((first|exact Lw qTP1.1 trivial|refine Lw qTP1.1 ?_);try omega))
  ·omega
 ·refine Wk qTP1.1 trivial ?_
  refine Cc ?_ ?_<;>intro hc<;>(try simp only[Za,ne_eq]at hc)
  ·refine Wk qTP1.1 trivial ?_
   refine Cc ?_ ?_<;>intro hc<;>(try simp only[Za,ne_eq]at hc)
   ·have e:r=4:=hp.symm.trans (Yt t s 4 4 hc)
    subst e
    refine Wk qTP1.1 trivial ?_
    first|exact Fn @Tryz.results276 qTP1.1 trivial|refine Fn @Tryz.results276 qTP1.1 ?_
   ·refine Wk qTP1.1 trivial ?_
    refine Zb 5 ⟨by omega,by omega,(Yu t s 4 4 hc).symm.trans hp⟩ (by omega) (by refine Le.of (τ:=[]) (ν:=[]) (by kernel_rfl) ?_ ?_<;>((first|exact Lw qTP1.1 trivial|refine Lw qTP1.1 ?_);try omega))
  ·omega
 ·refine Wk qTP1.1 trivial ?_
  refine Cc ?_ ?_<;>intro hc<;>(try simp only[Za,ne_eq]at hc)
  ·refine Wk qTP1.1 trivial ?_
   refine Cc ?_ ?_<;>intro hc<;>(try simp only[Za,ne_eq]at hc)
   ·have e:r=5:=hp.symm.trans (Yt t s 3 5 hc)
    subst e
    refine Wk qTP1.1 trivial ?_
    first|exact Fn @Tryz.results276 qTP1.1 trivial|refine Fn @Tryz.results276 qTP1.1 ?_
   ·refine Wk qTP1.1 trivial ?_
    refine Zb 6 ⟨by omega,by omega,(Yu t s 3 5 hc).symm.trans hp⟩ (by omega) (by refine Le.of (τ:=[]) (ν:=[]) (by kernel_rfl) ?_ ?_<;>((first|exact Lw qTP1.1 trivial|refine Lw qTP1.1 ?_);try omega))
  ·omega
 ·refine Wk qTP1.1 trivial ?_
  refine Cc ?_ ?_<;>intro hc<;>(try simp only[Za,ne_eq]at hc)
  ·refine Wk qTP1.1 trivial ?_
   refine Cc ?_ ?_<;>intro hc<;>(try simp only[Za,ne_eq]at hc)
   ·have e:r=6:=hp.symm.trans (Yt t s 2 6 hc)
    subst e
    refine Wk qTP1.1 trivial ?_
    first|exact Fn @Tryz.results276 qTP1.1 trivial|refine Fn @Tryz.results276 qTP1.1 ?_
   ·refine Wk qTP1.1 trivial ?_
    refine Zb 7 ⟨by omega,by omega,(Yu t s 2 6 hc).symm.trans hp⟩ (by omega) (by refine Le.of (τ:=[]) (ν:=[]) (by kernel_rfl) ?_ ?_<;>((first|exact Lw qTP1.1 trivial|refine Lw qTP1.1 ?_);try omega))
  ·omega
 ·refine Wk qTP1.1 trivial ?_
  refine Cc ?_ ?_<;>intro hc<;>(try simp only[Za,ne_eq]at hc)
  ·refine Wk qTP1.1 trivial ?_
   refine Cc ?_ ?_<;>intro hc<;>(try simp only[Za,ne_eq]at hc)
   ·have e:r=7:=hp.symm.trans (Yt t s 1 7 hc)
    subst e
    refine Wk qTP1.1 trivial ?_
    first|exact Fn @Tryz.results276 qTP1.1 trivial|refine Fn @Tryz.results276 qTP1.1 ?_
   ·refine Wk qTP1.1 trivial ?_
    refine Zb 8 ⟨by omega,by omega,(Yu t s 1 7 hc).symm.trans hp⟩ (by omega) (by refine Le.of (τ:=[]) (ν:=[]) (by kernel_rfl) ?_ ?_<;>((first|exact Lw qTP1.1 trivial|refine Lw qTP1.1 ?_);try omega))
  ·omega
 ·refine Wk qTP1.1 trivial ?_
  refine Cc ?_ ?_<;>intro hc<;>(try simp only[Za,ne_eq]at hc)
  ·refine Wk qTP1.1 trivial ?_
   refine Cc ?_ ?_<;>intro hc<;>(try simp only[Za,ne_eq]at hc)
   ·have e:r=8:=hp.symm.trans (Yt t s 0 8 hc)
    subst e
    refine Wk qTP1.1 trivial ?_
    first|exact Fn @Tryz.results276 qTP1.1 trivial|refine Fn @Tryz.results276 qTP1.1 ?_
   ·refine Wk qTP1.1 trivial ?_
    refine Zb 9 ⟨by omega,by omega,(Yu t s 0 8 hc).symm.trans hp⟩ (by omega) (by refine Le.of (τ:=[]) (ν:=[]) (by kernel_rfl) ?_ ?_<;>((first|exact Lw qTP1.1 trivial|refine Lw qTP1.1 ?_);try omega))
  ·omega
 ·refine Wk qTP1.1 trivial ?_
  refine Cc ?_ ?_<;>intro hc<;>(try simp only[Za,ne_eq]at hc)
  ·omega
  ·have e:r=0:=hp.symm
   subst e
   refine Wk qTP1.1 trivial ?_
   first|exact Fn @Tryz.results276 qTP1.1 trivial|refine Fn @Tryz.results276 qTP1.1 ?_
end
section
open NU
def numW (l:List UInt8):Int:=if (parseS l).2=0 then (parseS l).1 else -1
theorem numw_c (l:List UInt8) (hl:l.length≤1000) (r:Int) (hr:numW l=r):ACall Tryz.prog 306 [] [StD (str l)] (I r) []:=by
 unfold numW at hr
 obtain ⟨⟨v,e⟩,he⟩:∃y,parseS l=y:=⟨_,rfl⟩
 have hp:=parse_c l hl _ he
 rw[he]at hr
 dsimp only at hr
 refine Ac Tryz.func306 ?_
 refine Wk @Zh @hp ?_
 refine Cc ?_ ?_<;>intro hc<;>(try simp only[Za,ne_eq]at hc)
 ·rw[if_neg hc]at hr
  subst hr
  refine Wk @Zh @hp ?_
  first|exact Fn @Tryz.results306 @Zh trivial|refine Fn @Tryz.results306 @Zh ?_
 ·rw[if_pos (by omega)]at hr
  subst hr
  refine Wk @Zh @hp ?_
  first|exact Fn @Tryz.results306 @Zh trivial|refine Fn @Tryz.results306 @Zh ?_
theorem wordAt_c (l:List ByteArray) (i:Nat) (hl:l.length≤100000) (r:ByteArray) (hr:l.getD i ⟨#[]⟩=r):ACall Tryz.prog 305 [] [I i,.q [ssV l]] (StD r) []:=by
 refine Ac Tryz.func305 ?_
 refine Wk @Zh trivial ?_
 refine Cc ?_ ?_<;>intro hc<;>(try simp only[Za,ne_eq]at hc)
 ·have hil:i<l.length:=by omega
  have e:l.getD i default=r:=hr
  refine Wk @Zh trivial ?_
  first|exact Fn @Tryz.results305 @Zh trivial|refine Fn @Tryz.results305 @Zh ?_
  exact e.symm
 ·have e:r=⟨#[]⟩:=by
   rw[←hr,List.getD_eq_getElem?_getD,List.getElem?_eq_none (by omega)];rfl
  subst e
  refine Wk @Zh trivial ?_
  first|exact Fn @Tryz.results305 @Zh trivial|refine Fn @Tryz.results305 @Zh ?_
end
end Eng
end Go.Proofs.YtgenjpingdkmgaaGreatDoor
