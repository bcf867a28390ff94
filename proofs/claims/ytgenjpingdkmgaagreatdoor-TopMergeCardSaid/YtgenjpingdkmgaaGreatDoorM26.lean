/- Contracts of functions that this seat's law calls. No condition. -/
import Derived.StillTailTactics
import Derived.Laws.Cover1
import Derived.Shelf.SlSortCmp.NoneTotal
import Derived.Test.YtgenjpingdkmgaaGreatDoorM25
set_option maxRecDepth 100000
set_option linter.unusedSimpArgs false
set_option linter.unusedVariables false
namespace Go.Proofs.YtgenjpingdkmgaaGreatDoor
namespace Eng
namespace NA
abbrev pC (x:Pos):List C:=[.v (.x (.string x.acc)),.v (.x (.string x.sym)),.v (.x (.int .i64 x.qty)),.v (.x (.int .i64 x.value)),.v (.x (.bool x.over))]
abbrev iR (l:List Int):List (List V):=l.map fun n=>[V.x (.int .i64 n)]
theorem anyO_take {l:List Pos} {i:Nat} (h:i<l.length) (ho:(l.getD i default).over=true):anyO l=true :=
 List.any_eq_true.2 ⟨l[i],List.getElem_mem h,by rw[←gp_el h];exact ho⟩
theorem take_map1 {l:List Pos} (f:Pos→Int) {i:Nat} (h:i<l.length):(l.take (i+1)).map f=(l.take i).map f++[f (l.getD i default)]:=by
 rw[List.take_add_one,List.getElem?_eq_getElem h,gp_el h,List.map_append,Option.toList_some,List.map_cons,List.map_nil]
def qAK11:=PLift.up (An @getD_pR (An @List.map_append.{0,0} (An @List.map_cons.{0,0} (An @List.map_nil.{0,0} (An @List.length_append.{0} (An @List.length_cons.{0} (An @List.length_nil.{0} @List.length_map.{0,0})))))))
theorem tog_c (l:List Pos) (h0:0<l.length) (hl:l.length≤1000) (a sy:ByteArray) (ha:(l.getD 0 default).acc=a) (hs:(l.getD 0 default).sym=sy) (r:Pos) (hr:togP a sy l=r):ACall Tryz.prog 44 [] [psD l] (pD r) []:=by
 have hq1:True:=trivial
 have hq2:True:=trivial
 have hq3:True:=trivial
 have hs1:True:=trivial
 have hs2:True:=trivial
 refine Ac Tryz.func44 ?_
 have hq1:=ha
 have hq2:=hs
 refine Wk (An @hq1 (An @hq2 (An @hq3 qAK11.1))) (An @hs1 @hs2) ?_
 refine AWp.loop (τ:=ren [(1,640)]) (fun s:Nat×List Int×List Int=>mkSt [(2,.p 0 0),(3,.p 1 0),(4,.e (.c (.o 2 s.2.1.length))),(5,.e (.c (.o 3 s.2.2.length))),(21,psD l),(22,I l.length),(23,I s.1)] [(0,.loc (pC ⟨⟨#[]⟩,⟨#[]⟩,0,0,false⟩)),(1,.loc (pC ⟨a,sy,0,0,false⟩)),(2,.row 1 (iR s.2.1)),(3,.row 1 (iR s.2.2))] 4)
  (fun s=>s.1≤l.length∧s.2.1=(l.take s.1).map (fun x=>x.qty)∧s.2.2=(l.take s.1).map (fun x=>x.value)∧anyO (l.take s.1)=false) (fun s=>l.length - s.1) (0,[],[]) ⟨Nat.zero_le _,rfl,rfl,rfl⟩ (by refine Le.of (ν:=[2,3]) (by kernel_rfl) ?_ ?_<;>((refine Lv (An @hq1 (An @hq2 (An @hq3 qAK11.1))) fun eE=>?_;first|exact Lw (@Box.out _ eE) trivial|refine Lw (@Box.out _ eE) ?_);try (first|omega|rfl))) fun st hst=>?_
 obtain ⟨i,qs,vs⟩:=st
 obtain ⟨hi,hqs,hvs,hov⟩:=hst
 dsimp only at hi hqs hvs hov ⊢
 have hql:qs.length=i:=by rw[hqs,List.length_map,List.length_take];omega
 have hvl:vs.length=i:=by rw[hvs,List.length_map,List.length_take];omega
 clear hq1 hq2
 have hq1:True:=trivial
 have hq2:True:=trivial
 refine Wk (An @hq1 (An @hq2 (An @hq3 qAK11.1))) (An @hs1 @hs2) ?_
 refine Cc ?_ ?_<;>intro hc<;>(try simp only[Za,ne_eq]at hc)
 ·have hil:i<l.length:=by omega
  by_cases hov2:(l.getD i default).over=true
  ·have e:r=⟨a,sy,0,0,true⟩:=by rw[←hr,togP_over (anyO_take hil hov2)]
   subst e
   refine Wk (An @hq1 (An @hq2 (An @hq3 qAK11.1))) (An @hs1 @hs2) ?_
   refine Cc ?_ ?_<;>intro hc<;>(try simp only[Za,ne_eq]at hc)
   ·refine Wk (An @hq1 (An @hq2 (An @hq3 qAK11.1))) (An @hs1 @hs2) ?_
    first|exact Fn @Tryz.results44 (An @hq1 (An @hq2 (An @hq3 qAK11.1))) trivial|refine Fn @Tryz.results44 (An @hq1 (An @hq2 (An @hq3 qAK11.1))) ?_
   ·rw[hov2]at hc;cases hc
  ·have hov3:anyO (l.take (i+1))=false:=by
    unfold anyO at hov ⊢
    rw[List.take_add_one,List.getElem?_eq_getElem hil,List.any_append,hov,Option.toList_some,List.any_cons,List.any_nil,←gp_el hil]
    simpa using hov2
   have e1:=take_map1 (fun x=>x.qty) hil
   have e2:=take_map1 (fun x=>x.value) hil
   rw[←hqs]at e1
   rw[←hvs]at e2
   refine Wk (An @hq1 (An @hq2 (An @hq3 qAK11.1))) (An @hs1 @hs2) ?_
   refine Cc ?_ ?_<;>intro hc<;>(try simp only[Za,ne_eq]at hc)
   ·contradiction
   ·refine Wk (An @hq1 (An @hq2 (An @hq3 qAK11.1))) (An @hs1 @hs2) ?_
    refine Zb (τ:=ren [(2,708),(3,1092)]) (ν:=[]) (i+1,qs++[(l.getD i default).qty],vs++[(l.getD i default).value]) ⟨hil,e1.symm,e2.symm,hov3⟩ (by dsimp only;omega) ?_
    refine Le.of (by kernel_rfl) ?_ ?_<;>((refine Lv (An @hq1 (An @hq2 (An @hq3 qAK11.1))) fun eE=>?_;first|exact Lw (@Box.out _ eE) trivial|refine Lw (@Box.out _ eE) ?_);try (first|omega|rfl))
 ·obtain rfl:i=l.length:=by omega
  rw[List.take_length]at hqs hvs hov
  obtain ⟨⟨q,qb⟩,hQ⟩:∃x,sumS qs=x:=⟨_,rfl⟩
  obtain ⟨⟨v,vb⟩,hV⟩:∃x,sumS vs=x:=⟨_,rfl⟩
  have hs1:=sum53_c qs (by omega) _ hQ
  have hs2:=sum53_c vs (by omega) _ hV
  unfold togP at hr
  rw[←hqs,←hvs,hQ,hV]at hr
  by_cases hb:qb=true∧vb=true
  ·rw[if_pos ⟨hov,hb⟩]at hr
   obtain ⟨rfl,rfl⟩:=hb
   subst hr
   refine Wk (An @hq1 (An @hq2 (An @hq3 qAK11.1))) (An @hs1 @hs2) ?_
   refine Cc ?_ ?_<;>intro hc<;>(try simp only[Za,ne_eq]at hc)
   ·first|contradiction|(simp at hc;done)
   ·refine Wk (An @hq1 (An @hq2 (An @hq3 qAK11.1))) (An @hs1 @hs2) ?_
    first|exact Fn @Tryz.results44 (An @hq1 (An @hq2 (An @hq3 qAK11.1))) trivial|refine Fn @Tryz.results44 (An @hq1 (An @hq2 (An @hq3 qAK11.1))) ?_
  ·rw[if_neg (fun h=>hb h.2)]at hr
   subst hr
   refine Wk (An @hq1 (An @hq2 (An @hq3 qAK11.1))) (An @hs1 @hs2) ?_
   refine Cc ?_ ?_<;>intro hc<;>(try simp only[Za,ne_eq]at hc)
   ·refine Wk (An @hq1 (An @hq2 (An @hq3 qAK11.1))) (An @hs1 @hs2) ?_
    first|exact Fn @Tryz.results44 (An @hq1 (An @hq2 (An @hq3 qAK11.1))) trivial|refine Fn @Tryz.results44 (An @hq1 (An @hq2 (An @hq3 qAK11.1))) ?_
   ·exact absurd hc (by simpa using hb)
end NA
namespace NA
def qAK32:=PLift.up (An @Ze @right_c)
def qAK31:=PLift.up (An @getD_pR (An @List.map_append.{0,0} (An @List.map_cons.{0,0} (An @List.map_nil.{0,0} (An @List.length_append.{0} (An @List.length_cons.{0} (An @List.length_nil.{0} @List.length_map.{0,0})))))))
theorem same17_c (l:List Pos) (hl:l.length≤1000000):ACall Tryz.prog 12 [] [psD l,psD l] (B true) []:=by
 have hless:True:=trivial
 have hq1:True:=trivial
 have hq2:True:=trivial
 have hq3:True:=trivial
 have hpr:True:=trivial
 refine Ac Tryz.func12 ?_
 refine Wk (An @hq1 (An @hq2 (An @hq3 (An @hpr qAK31.1)))) (An @hless qAK32.1) ?_
 refine Cc ?_ ?_<;>intro hc<;>(try simp only[Za,ne_eq]at hc)
 ·first|contradiction|(simp at hc;done)
 ·refine Wk (An @hq1 (An @hq2 (An @hq3 (An @hpr qAK31.1)))) (An @hless qAK32.1) ?_
  refine AWp.loop (fun i:Nat=>mkSt [(0,psD l),(1,psD l),(5,I i)] [] 0) (fun i=>i≤l.length) (fun i=>l.length - i) 0 (Nat.zero_le _) (by refine Le.of (τ:=[]) (ν:=[]) (by kernel_rfl) ?_ ?_<;>((refine Lv (An @hq1 (An @hq2 (An @hq3 (An @hpr qAK31.1)))) fun eE=>?_;first|exact Lw (@Box.out _ eE) trivial|refine Lw (@Box.out _ eE) ?_);try rfl)) fun i hi=>?_
  refine Wk (An @hq1 (An @hq2 (An @hq3 (An @hpr qAK31.1)))) (An @hless qAK32.1) ?_
  refine Cc ?_ ?_<;>intro hc<;>(try simp only[Za,ne_eq]at hc)
  ·refine Wk (An @hq1 (An @hq2 (An @hq3 (An @hpr qAK31.1)))) (An @hless qAK32.1) ?_
   refine Cc ?_ ?_<;>intro hc<;>(try simp only[Za,ne_eq]at hc)
   ·simp at hc
   ·refine Wk (An @hq1 (An @hq2 (An @hq3 (An @hpr qAK31.1)))) (An @hless qAK32.1) ?_
    refine Zb (i+1) (by omega) (by omega) (by refine Le.of (τ:=[]) (ν:=[]) (by kernel_rfl) ?_ ?_<;>((refine Lv (An @hq1 (An @hq2 (An @hq3 (An @hpr qAK31.1)))) fun eE=>?_;first|exact Lw (@Box.out _ eE) trivial|refine Lw (@Box.out _ eE) ?_);try omega))
  ·refine Wk (An @hq1 (An @hq2 (An @hq3 (An @hpr qAK31.1)))) (An @hless qAK32.1) ?_
   first|exact Fn @Tryz.results12 (An @hq1 (An @hq2 (An @hq3 (An @hpr qAK31.1)))) trivial|refine Fn @Tryz.results12 (An @hq1 (An @hq2 (An @hq3 (An @hpr qAK31.1)))) ?_
open Classical in
noncomputable def rgtB (l:List Pos):Bool:=decide (rgtP l)
open Classical in
theorem rgtB_yes {l:List Pos} (h:rgtP l):rgtB l=true:=by unfold rgtB;exact decide_eq_true h
open Classical in
theorem rgtB_no {l:List Pos} (h:¬rgtP l):rgtB l=false:=by unfold rgtB;exact decide_eq_false h
theorem okN_r {n:Int} (h:okN n):rightN n=true:=rightN_spec.2 h
theorem right15_c (l:List Pos) (hl:l.length≤1000000) (b:Bool) (hb:rgtB l=b):ACall Tryz.prog 41 [] [psD l] (B b) []:=by
 have hless:True:=trivial
 have hq1:True:=trivial
 have hq2:True:=trivial
 have hq3:True:=trivial
 have hpr:True:=trivial
 refine Ac Tryz.func41 ?_
 refine Wk (An @hq1 (An @hq2 (An @hq3 (An @hpr qAK31.1)))) (An @hless qAK32.1) ?_
 refine AWp.loop (fun i:Nat=>mkSt [(0,psD l),(5,psD l),(6,I l.length),(7,I i)] [] 0) (fun i=>i≤l.length∧∀j,j<i→stepOk l j) (fun i=>l.length - i) 0 ⟨Nat.zero_le _,fun j hj=>absurd hj (Nat.not_lt_zero _)⟩ (by refine Le.of (τ:=[]) (ν:=[]) (by kernel_rfl) ?_ ?_<;>((refine Lv (An @hq1 (An @hq2 (An @hq3 (An @hpr qAK31.1)))) fun eE=>?_;first|exact Lw (@Box.out _ eE) trivial|refine Lw (@Box.out _ eE) ?_);try rfl)) fun i hi=>?_
 obtain ⟨hi,hj⟩:=hi
 refine Wk (An @hq1 (An @hq2 (An @hq3 (An @hpr qAK31.1)))) (An @hless qAK32.1) ?_
 refine Cc ?_ ?_<;>intro hc<;>(try simp only[Za,ne_eq]at hc)
 ·have hil:i<l.length:=by omega
  have hpr:0<i→((i:Int) - 1).toNat=i - 1:=fun _=>by omega
  by_cases hs:stepOk l i
  ·have hj2:∀j,j<i+1→stepOk l j:=fun j h=>by
    rcases (show j<i∨j=i by omega) with h|rfl
    ·exact hj j h
    ·exact hs
   clear hb
   obtain ⟨h1,h2,h3,h4⟩:=hs
   have h2':=okN_r h2
   have h3':=okN_r h3
   by_cases hi0:i=0
   ·subst hi0
    refine Wk (An @hq1 (An @hq2 (An @hq3 (An @hpr qAK31.1)))) (An @hless qAK32.1) ?_
    refine Cc ?_ ?_<;>intro hc<;>(try simp only[Za,ne_eq]at hc)
    ·omega
    ·refine Wk (An @hq1 (An @hq2 (An @hq3 (An @hpr qAK31.1)))) (An @hless qAK32.1) ?_
     refine Cc ?_ ?_<;>intro hc<;>(try simp only[Za,ne_eq]at hc)
     ·simp_all
     ·refine Wk (An @hq1 (An @hq2 (An @hq3 (An @hpr qAK31.1)))) (An @hless qAK32.1) ?_
      refine Cc ?_ ?_<;>intro hc<;>(try simp only[Za,ne_eq]at hc)
      ·simp_all
      ·refine Wk (An @hq1 (An @hq2 (An @hq3 (An @hpr qAK31.1)))) (An @hless qAK32.1) ?_
       refine Zb 1 ⟨by omega,hj2⟩ (by omega) (by refine Le.of (τ:=[]) (ν:=[]) (by kernel_rfl) ?_ ?_<;>((refine Lv (An @hq1 (An @hq2 (An @hq3 (An @hpr qAK31.1)))) fun eE=>?_;first|exact Lw (@Box.out _ eE) trivial|refine Lw (@Box.out _ eE) ?_);try omega))
   ·have hpr:((i:Int) - 1).toNat=i - 1:=by omega
    have h1:=h1 (by omega)
    refine Wk (An @hq1 (An @hq2 (An @hq3 (An @hpr qAK31.1)))) (An @hless qAK32.1) ?_
    refine Cc ?_ ?_<;>intro hc<;>(try simp only[Za,ne_eq]at hc)
    ·exact absurd (show 0≤cmpP (l.getD (i - 1) default) (l.getD i default) from hc.2) (by omega)
    ·refine Wk (An @hq1 (An @hq2 (An @hq3 (An @hpr qAK31.1)))) (An @hless qAK32.1) ?_
     refine Cc ?_ ?_<;>intro hc<;>(try simp only[Za,ne_eq]at hc)
     ·simp_all
     ·refine Wk (An @hq1 (An @hq2 (An @hq3 (An @hpr qAK31.1)))) (An @hless qAK32.1) ?_
      refine Cc ?_ ?_<;>intro hc<;>(try simp only[Za,ne_eq]at hc)
      ·simp_all
      ·refine Wk (An @hq1 (An @hq2 (An @hq3 (An @hpr qAK31.1)))) (An @hless qAK32.1) ?_
       refine Zb (i+1) ⟨by omega,hj2⟩ (by omega) (by refine Le.of (τ:=[]) (ν:=[]) (by kernel_rfl) ?_ ?_<;>((refine Lv (An @hq1 (An @hq2 (An @hq3 (An @hpr qAK31.1)))) fun eE=>?_;first|exact Lw (@Box.out _ eE) trivial|refine Lw (@Box.out _ eE) ?_);try omega))
  ·have e:b=false:=by rw[←hb];exact rgtB_no (fun h=>hs (h i hil))
   subst e
   by_cases hi0:i=0
   ·subst hi0
    refine Wk (An @hq1 (An @hq2 (An @hq3 (An @hpr qAK31.1)))) (An @hless qAK32.1) ?_
    refine Cc ?_ ?_<;>intro hc<;>(try simp only[Za,ne_eq]at hc)
    ·omega
    ·refine Wk (An @hq1 (An @hq2 (An @hq3 (An @hpr qAK31.1)))) (An @hless qAK32.1) ?_
     refine Cc ?_ ?_<;>intro hc<;>(try simp only[Za,ne_eq]at hc)
     ·refine Wk (An @hq1 (An @hq2 (An @hq3 (An @hpr qAK31.1)))) (An @hless qAK32.1) ?_
      first|exact Fn @Tryz.results41 (An @hq1 (An @hq2 (An @hq3 (An @hpr qAK31.1)))) trivial|refine Fn @Tryz.results41 (An @hq1 (An @hq2 (An @hq3 (An @hpr qAK31.1)))) ?_
     ·refine Wk (An @hq1 (An @hq2 (An @hq3 (An @hpr qAK31.1)))) (An @hless qAK32.1) ?_
      refine Cc ?_ ?_<;>intro hc<;>(try simp only[Za,ne_eq]at hc)
      ·refine Wk (An @hq1 (An @hq2 (An @hq3 (An @hpr qAK31.1)))) (An @hless qAK32.1) ?_
       first|exact Fn @Tryz.results41 (An @hq1 (An @hq2 (An @hq3 (An @hpr qAK31.1)))) trivial|refine Fn @Tryz.results41 (An @hq1 (An @hq2 (An @hq3 (An @hpr qAK31.1)))) ?_
      ·exfalso
       refine hs ⟨fun h=>by omega,rightN_spec.1 ?_,rightN_spec.1 ?_,fun h=>?_⟩<;>simp_all
   ·have hpr:((i:Int) - 1).toNat=i - 1:=by omega
    refine Wk (An @hq1 (An @hq2 (An @hq3 (An @hpr qAK31.1)))) (An @hless qAK32.1) ?_
    refine Cc ?_ ?_<;>intro hc<;>(try simp only[Za,ne_eq]at hc)
    ·refine Wk (An @hq1 (An @hq2 (An @hq3 (An @hpr qAK31.1)))) (An @hless qAK32.1) ?_
     first|exact Fn @Tryz.results41 (An @hq1 (An @hq2 (An @hq3 (An @hpr qAK31.1)))) trivial|refine Fn @Tryz.results41 (An @hq1 (An @hq2 (An @hq3 (An @hpr qAK31.1)))) ?_
    ·have hc1:=hc
     refine Wk (An @hq1 (An @hq2 (An @hq3 (An @hpr qAK31.1)))) (An @hless qAK32.1) ?_
     refine Cc ?_ ?_<;>intro hc<;>(try simp only[Za,ne_eq]at hc)
     ·refine Wk (An @hq1 (An @hq2 (An @hq3 (An @hpr qAK31.1)))) (An @hless qAK32.1) ?_
      first|exact Fn @Tryz.results41 (An @hq1 (An @hq2 (An @hq3 (An @hpr qAK31.1)))) trivial|refine Fn @Tryz.results41 (An @hq1 (An @hq2 (An @hq3 (An @hpr qAK31.1)))) ?_
     ·have hc2:=hc
      refine Wk (An @hq1 (An @hq2 (An @hq3 (An @hpr qAK31.1)))) (An @hless qAK32.1) ?_
      refine Cc ?_ ?_<;>intro hc<;>(try simp only[Za,ne_eq]at hc)
      ·refine Wk (An @hq1 (An @hq2 (An @hq3 (An @hpr qAK31.1)))) (An @hless qAK32.1) ?_
       first|exact Fn @Tryz.results41 (An @hq1 (An @hq2 (An @hq3 (An @hpr qAK31.1)))) trivial|refine Fn @Tryz.results41 (An @hq1 (An @hq2 (An @hq3 (An @hpr qAK31.1)))) ?_
      ·exfalso
       refine hs ⟨fun h=>?_,rightN_spec.1 ?_,rightN_spec.1 ?_,fun h=>?_⟩
       ·rcases hc1 with h|h
        ·omega
        ·exact Int.not_le.1 h
       all_goals simp_all
 ·obtain rfl:i=l.length:=by omega
  have e:b=true:=by rw[←hb];exact rgtB_yes hj
  subst e
  refine Wk (An @hq1 (An @hq2 (An @hq3 (An @hpr qAK31.1)))) (An @hless qAK32.1) ?_
  first|exact Fn @Tryz.results41 (An @hq1 (An @hq2 (An @hq3 (An @hpr qAK31.1)))) trivial|refine Fn @Tryz.results41 (An @hq1 (An @hq2 (An @hq3 (An @hpr qAK31.1)))) ?_
end NA
namespace NA
abbrev LR (ls:List (List Pos)):List (List V):=ls.map fun l=>[V.s 5 (pR l)]
abbrev LL (ls:List (List Pos)):D:=.e (.c (.v (.s 1 (LR ls))))
theorem getD_LR (ls:List (List Pos)) (i:Nat) (hi:i<ls.length) (d:List V):(ls.map fun l=>[V.s 5 (pR l)]).getD i d=[V.s 5 (pR (ls.getD i default))]:=by
 rw[List.getD_eq_getElem?_getD,List.getElem?_map,List.getD_eq_getElem?_getD,List.getElem?_eq_getElem hi]
 rfl
theorem flat_at {ls:List (List Pos)} {i:Nat} (h:i<ls.length):(ls.drop i).flatten=ls.getD i default++(ls.drop (i+1)).flatten:=by
 rw[List.drop_eq_getElem_cons h,List.flatten_cons,List.getD_eq_getElem?_getD,List.getElem?_eq_getElem h];rfl
abbrev resA (r:List Pos×Int):D:=.t [.c (.v (.s 5 (pR r.1))),.c (.v (vI r.2))]
theorem len_at {ls:List (List Pos)} {i:Nat} (h:i<ls.length):(ls.getD i default).length≤ls.flatten.length:=by
 have h1:ls.flatten=(ls.take i).flatten++(ls.drop i).flatten:=by rw[←List.flatten_append,List.take_append_drop]
 rw[flat_at h]at h1
 rw[h1]
 simp only[List.length_append]
 omega
theorem mem_at {ls:List (List Pos)} {i:Nat} (h:i<ls.length):ls.getD i default∈ls:=by
 rw[List.getD_eq_getElem?_getD,List.getElem?_eq_getElem h];exact List.getElem_mem h
theorem allr_of {ls:List (List Pos)} (h:∀j,j<ls.length→rgtP (ls.getD j default)):∀l,l∈ls→rgtP l:=fun l hl=>by
 obtain ⟨j,hj,rfl⟩:=List.getElem_of_mem hl
 have:=h j hj
 rw[List.getD_eq_getElem?_getD,List.getElem?_eq_getElem hj]at this
 exact this
theorem grp_cut {l:List Pos} {n:Nat} (h0:0<n) (hn:n≤l.length) (hin:∀j,j<n→nm (l.getD 0 default).acc (l.getD 0 default).sym (l.getD j default)=true) (hout:n<l.length→nm (l.getD 0 default).acc (l.getD 0 default).sym (l.getD n default)=false) :
 grpF l=togP (l.getD 0 default).acc (l.getD 0 default).sym (l.take n)::grpF (l.drop n):=by
 cases l with
 | nil=>simp at hn;omega
 | cons x l =>
  obtain ⟨m,rfl⟩:∃m,n=m+1:=⟨n - 1,by omega⟩
  simp only[List.getD_cons_zero,List.length_cons]at hin hout hn ⊢
  have key:∀(m:Nat) (l:List Pos),m≤l.length→(∀j,j<m→nm x.acc x.sym (l.getD j default)=true)→(m<l.length→nm x.acc x.sym (l.getD m default)=false)→l.takeWhile (nm x.acc x.sym)=l.take m∧l.dropWhile (nm x.acc x.sym)=l.drop m:=by
   intro m
   induction m with
   | zero =>
    intro l _ _ h3
    cases l with
    | nil=>exact ⟨rfl,rfl⟩
    | cons y l =>
     have:=h3 (by simp)
     simp only[List.getD_cons_zero]at this
     rw[List.takeWhile_cons,List.dropWhile_cons,this]
     exact ⟨rfl,rfl⟩
   | succ m ih =>
    intro l h1 h2 h3
    cases l with
    | nil=>simp at h1
    | cons y l =>
     have hy:=h2 0 (by omega)
     simp only[List.getD_cons_zero]at hy
     obtain ⟨i1,i2⟩:=ih l (by simpa using h1) (fun j hj=>by have:=h2 (j+1) (by omega);simpa using this) (fun h=>by have:=h3 (by simpa using h);simpa using this)
     rw[List.takeWhile_cons,List.dropWhile_cons,if_pos hy,if_pos hy,i1,i2]
     exact ⟨rfl,rfl⟩
  obtain ⟨k1,k2⟩:=key m l (by omega) (fun j hj=>by have:=hin (j+1) (by omega);simpa using this) (fun h=>by have:=hout (by omega);simpa using this)
  rw[grpF,k1,k2]
  rfl
def qAK71:=PLift.up (An @evO_f (An @getD_pR (An @getD_LR (An @List.map_append.{0,0} (An @List.map_cons.{0,0} (An @List.map_nil.{0,0} (An @List.length_append.{0} (An @List.length_cons.{0} (An @List.length_nil.{0} @List.length_map.{0,0})))))))))
theorem all13_c (ls:List (List Pos)) (hls:ls.length≤1000) (hl:ls.flatten.length≤1000) (r:List Pos×Int) (hr:allS ls=r):ACall Tryz.prog 10 [] [LL ls] (resA r) []:=by
 have hright:True:=trivial
 have hsort:True:=trivial
 have hby:True:=trivial
 have htog:True:=trivial
 have hq1:True:=trivial
 have hq2:True:=trivial
 have hq3:True:=trivial
 have hpr:True:=trivial
 obtain ⟨F,hF⟩:∃F,ls.flatten=F:=⟨_,rfl⟩
 rw[hF]at hl
 refine Ac Tryz.func10 ?_
 refine Wo (Own.mk (f:=(oF [42]))) (An @hq1 (An @hq2 (An @hq3 (An @hpr qAK71.1)))) (An @hright (An @hsort (An @hby @htog))) ?_
 refine AWp.loop (τ:=ren []) (fun s:Nat×List Pos=>mkSt [(4,.e (.c (.o 0 s.2.length))),(9,LL ls),(10,I ls.length),(11,I s.1)] [(0,.row 5 (pR s.2))] 1) (fun s=>s.1≤ls.length∧s.2++(ls.drop s.1).flatten=F∧∀j,j<s.1→rgtP (ls.getD j default)) (fun s=>ls.length - s.1) (0,[]) ⟨Nat.zero_le _,hF,fun j hj=>absurd hj (Nat.not_lt_zero _)⟩ (by refine Le.of (ν:=[0]) (by kernel_rfl) ?_ ?_<;>((refine Lv (An @hq1 (An @hq2 (An @hq3 (An @hpr qAK71.1)))) fun eE=>?_;first|exact Lw (@Box.out _ eE) trivial|refine Lw (@Box.out _ eE) ?_);try (first|omega|rfl))) fun st hst=>?_
 obtain ⟨i,acc⟩:=st
 obtain ⟨hi,hac,hj⟩:=hst
 dsimp only at hi hac hj ⊢
 refine Wo (Own.mk (f:=(oF [42]))) (An @hq1 (An @hq2 (An @hq3 (An @hpr qAK71.1)))) (An @hright (An @hsort (An @hby @htog))) ?_
 refine Cc ?_ ?_<;>intro hc<;>(try simp only[Za,ne_eq]at hc)
 ·have hil:i<ls.length:=by omega
  have hLl:=len_at hil
  rw[hF]at hLl
  rw[flat_at hil]at hac
  obtain ⟨L,hL⟩:∃L,ls.getD i default=L:=⟨_,rfl⟩
  obtain ⟨b,hb⟩:∃b,rgtB (ls.getD i default)=b:=⟨_,rfl⟩
  have hright:=right15_c (ls.getD i default) (by omega) b hb
  by_cases hri:rgtP (ls.getD i default)
  ·rw[rgtB_yes hri]at hb
   subst hb
   have hal:acc.length≤1000:=by rw[←hac,List.length_append]at hl;omega
   rw[hL]at hac hright hLl
   have hq1:=hL
   refine Wo (Own.mk (f:=(oF [42]))) (An @hq1 (An @hq2 (An @hq3 (An @hpr qAK71.1)))) (An @hright (An @hsort (An @hby @htog))) ?_
   refine Cc ?_ ?_<;>intro hc<;>(try simp only[Za,ne_eq]at hc)
   ·contradiction
   ·refine Wo (Own.mk (f:=(oF [42]))) (An @hq1 (An @hq2 (An @hq3 (An @hpr qAK71.1)))) (An @hright (An @hsort (An @hby @htog))) ?_
    refine Zb (τ:=ren [(0,577)]) (ν:=[]) (i+1,acc++L) ⟨hil,by dsimp only;rw[List.append_assoc];exact hac,fun j hj2=>by
     rcases (show j<i∨j=i by dsimp only at hj2;omega) with h|rfl
     ·exact hj j h
     ·exact hri⟩ (by dsimp only;omega) ?_
    refine Le.of (by kernel_rfl) ?_ ?_<;>((refine Lv (An @hq1 (An @hq2 (An @hq3 (An @hpr qAK71.1)))) fun eE=>?_;first|exact Lw (@Box.out _ eE) trivial|refine Lw (@Box.out _ eE) ?_);try (first|omega|rfl))
  ·rw[rgtB_no hri]at hb
   subst hb
   have e:r=([],1):=by rw[←hr,allS_no];exact fun h=>hri (h _ (mem_at hil))
   subst e
   refine Wo (Own.mk (f:=(oF [42]))) (An @hq1 (An @hq2 (An @hq3 (An @hpr qAK71.1)))) (An @hright (An @hsort (An @hby @htog))) ?_
   refine Cc ?_ ?_<;>intro hc<;>(try simp only[Za,ne_eq]at hc)
   ·refine Wo (Own.mk (f:=(oF [42]))) (An @hq1 (An @hq2 (An @hq3 (An @hpr qAK71.1)))) (An @hright (An @hsort (An @hby @htog))) ?_
    first|exact Fn @Tryz.results10 (An @hq1 (An @hq2 (An @hq3 (An @hpr qAK71.1)))) trivial|refine Fn @Tryz.results10 (An @hq1 (An @hq2 (An @hq3 (An @hpr qAK71.1)))) ?_
   ·contradiction
 ·obtain rfl:i=ls.length:=by omega
  rw[List.drop_length,List.flatten_nil,List.append_nil]at hac
  subst hac
  have e:(grpF (sortF acc),0)=r:=by rw[←hr,allS_yes (allr_of hj),hF];rfl
  obtain ⟨G,hG⟩:∃G,sortF acc=G:=⟨_,rfl⟩
  have hsort:=sort_c acc (by omega) G hG
  have hGl:G.length=acc.length:=by rw[←hG];exact (sortF_perm acc).length_eq
  rw[hG]at e
  obtain ⟨R,hR⟩:∃R,grpF G=R:=⟨_,rfl⟩
  rw[hR]at e
  subst e
  clear hj hi hr hF
  refine Wo (Own.mk (f:=(oF [42]))) (An @hq1 (An @hq2 (An @hq3 (An @hpr qAK71.1)))) (An @hright (An @hsort (An @hby @htog))) ?_
  refine AWp.freeze [] ?_
  refine AWp.loop (τ:=ren []) (fun s:List Pos×List Pos=>mkSt [(4,psD s.1),(7,.e (.c (.o 0 s.2.length)))] [(0,.row 5 (pR s.2))] 1) (fun s=>s.2++grpF s.1=R∧s.1.length+s.2.length≤1000) (fun s=>s.1.length) (G,[]) ⟨hR,by simp;omega⟩ (by refine Le.of (ν:=[0]) (by kernel_rfl) ?_ ?_<;>((refine Lv (An @hq1 (An @hq2 (An @hq3 (An @hpr qAK71.1)))) fun eE=>?_;first|exact Lw (@Box.out _ eE) trivial|refine Lw (@Box.out _ eE) ?_);try (first|omega|rfl|exact ⟨(List.take_of_length_le (by simp;omega)).symm,by omega⟩))) fun st hst=>?_
  obtain ⟨q,o⟩:=st
  obtain ⟨hg,hgl⟩:=hst
  dsimp only at hg hgl ⊢
  have hsort:True:=trivial
  refine Wo (Own.mk (f:=(oF [42]))) (An @hq1 (An @hq2 (An @hq3 (An @hpr qAK71.1)))) (An @hright (An @hsort (An @hby @htog))) ?_
  refine Cc ?_ ?_<;>intro hc<;>(try simp only[Za,ne_eq]at hc)
  ·have hq0:0<q.length:=by omega
   obtain ⟨x,hx⟩:∃x,q.getD 0 default=x:=⟨_,rfl⟩
   have hq1:=hx
   have hst1:∀j,j<1→nm x.acc x.sym (q.getD j default)=true:=fun j hj=>by
    obtain rfl:j=0:=by omega
    rw[hx];exact nm_self x
   refine Wo (Own.mk (f:=(oF [42]))) (An @hq1 (An @hq2 (An @hq3 (An @hpr qAK71.1)))) (An @hright (An @hsort (An @hby @htog))) ?_
   refine AWp.loop (τ:=ren []) (fun n:Nat=>mkSt [(4,psD q),(7,.e (.c (.o 0 o.length))),(8,I n)] [(0,.row 5 (pR o))] 1) (fun n=>1≤n∧n≤q.length∧∀j,j<n→nm x.acc x.sym (q.getD j default)=true) (fun n=>q.length - n) 1 ⟨Nat.le_refl _,hq0,hst1⟩ (by refine Le.of (ν:=[]) (by kernel_rfl) ?_ ?_<;>((refine Lv (An @hq1 (An @hq2 (An @hq3 (An @hpr qAK71.1)))) fun eE=>?_;first|exact Lw (@Box.out _ eE) trivial|refine Lw (@Box.out _ eE) ?_);try (first|omega|rfl))) fun n hn=>?_
   obtain ⟨hn1,hn2,hin⟩:=hn
   obtain ⟨y,hy⟩:∃y,q.getD n default=y:=⟨_,rfl⟩
   have hq2:=hy
   have hby:=Ze x y
   refine Wo (Own.mk (f:=(oF [42]))) (An @hq1 (An @hq2 (An @hq3 (An @hpr qAK71.1)))) (An @hright (An @hsort (An @hby @htog))) ?_
   refine Cc ?_ ?_<;>intro hc<;>(try simp only[Za,ne_eq]at hc)
   ·have hnl:n<q.length:=by omega
    have h0:=hc.2
    refine Wo (Own.mk (f:=(oF [42]))) (An @hq1 (An @hq2 (An @hq3 (An @hpr qAK71.1)))) (An @hright (An @hsort (An @hby @htog))) ?_
    refine Zb (τ:=ren []) (ν:=[]) (n+1) ⟨by omega,hnl,fun j hj=>by
     rcases (show j<n∨j=n by omega) with h|rfl
     ·exact hin j h
     ·rw[hy];exact nm_cmp.2 h0⟩ (by omega) ?_
    refine Le.of (by kernel_rfl) ?_ ?_<;>((refine Lv (An @hq1 (An @hq2 (An @hq3 (An @hpr qAK71.1)))) fun eE=>?_;first|exact Lw (@Box.out _ eE) trivial|refine Lw (@Box.out _ eE) ?_);try (first|omega|rfl))
   ·have hcut:=grp_cut (l:=q) (n:=n) (by omega) hn2 (by rw[hx];exact hin) (fun hlt=>by
     rw[hx,hy]
     rcases hc with h|h
     ·omega
     ·cases e:nm x.acc x.sym y with
      | false=>rfl
      | true=>exact absurd (nm_cmp.1 e) h)
    rw[hcut,hx]at hg
    obtain ⟨t,ht⟩:∃t,togP x.acc x.sym (q.take n)=t:=⟨_,rfl⟩
    rw[ht]at hg
    have h00:(q.take n).getD 0 default=x:=by
     rw[←hx,List.getD_eq_getElem?_getD,List.getElem?_take_of_lt (by omega),List.getD_eq_getElem?_getD]
    have htog:=tog_c (q.take n) (by rw[List.length_take];omega) (by rw[List.length_take];omega) x.acc x.sym (by rw[h00]) (by rw[h00]) t ht
    have hdl:(q.drop n).length=q.length - n:=List.length_drop ..
    have etk:pR (q.take n)=(pR q).take n:=List.map_take ..
    have edr:pR (q.drop n)=(pR q).drop n:=List.map_drop ..
    rw[show psD (q.take n)=D.e (.c (.v (.s 5 ((pR q).take n)))) by rw[←etk]]at htog
    refine Wo (Own.mk (f:=(oF [42]))) (An @hq1 (An @hq2 (An @hq3 (An @hpr qAK71.1)))) (An @hright (An @hsort (An @hby @htog))) ?_
    refine Zb (τ:=ren [(0,1345)]) (ν:=[]) (q.drop n,o++[t]) ⟨by dsimp only;rw[List.append_assoc];exact hg,by simp;omega⟩ (by dsimp only;omega) ?_
    refine Le.of (by kernel_rfl) ?_ ?_<;>((refine Lv (An @hq1 (An @hq2 (An @hq3 (An @hpr qAK71.1)))) fun eE=>?_;first|exact Lw (@Box.out _ eE) trivial|refine Lw (@Box.out _ eE) ?_);try (first|omega|rfl|exact congrArg (V.s 5) edr))
  ·obtain rfl:q=[]:=List.eq_nil_of_length_eq_zero (by omega)
   rw[grpF,List.append_nil]at hg
   subst hg
   refine Wo (Own.mk (f:=(oF [42]))) (An @hq1 (An @hq2 (An @hq3 (An @hpr qAK71.1)))) (An @hright (An @hsort (An @hby @htog))) ?_
   first|exact Fn @Tryz.results10 (An @hq1 (An @hq2 (An @hq3 (An @hpr qAK71.1)))) trivial|refine Fn @Tryz.results10 (An @hq1 (An @hq2 (An @hq3 (An @hpr qAK71.1)))) ?_
end NA
section
open Go.RowKit Go.Maps Go.Sort Go.Shelf
structure Nam where
 acc:ByteArray
 sym:ByteArray
deriving DecidableEq
instance :Inhabited Nam:=⟨⟨⟨#[]⟩,⟨#[]⟩⟩⟩
abbrev nR (l:List Nam):List (List V):=l.map fun x=>[V.x (.string x.acc),V.x (.string x.sym)]
abbrev nsD (l:List Nam):D:=.e (.c (.v (.s 2 (nR l))))
def encN (x:Nam):List Value:=[.string x.acc,.string x.sym]
def toP (n:Nam):NA.Pos:=⟨n.acc,n.sym,0,0,false⟩
def cmpN (a b:Nam):Int:=NA.cmpP (toP a) (toP b)
theorem cmpN_eq {a b:Nam}:cmpN a b=0↔a=b:=by
 rw[cmpN,NA.cmpP_eq]
 constructor
 ·rintro ⟨h1,h2⟩;cases a;cases b;simp only[toP]at h1 h2;rw[h1,h2]
 ·rintro rfl;exact ⟨rfl,rfl⟩
theorem rowN_one {l:List Nam} {i j:Nat} {r:List V} {v:V} (hi:(nR l)[i]?=some r) (hj:r[j]?=some v):∃x,l[i]?=some x∧((j=0∧v=.x (.string x.acc))∨(j=1∧v=.x (.string x.sym))):=by
 rw[List.getElem?_map]at hi
 obtain ⟨s,hs,rfl⟩:=Option.map_eq_some_iff.1 hi
 refine ⟨s,hs,?_⟩
 match j,hj with
 | 0,hj=>cases hj;exact .inl ⟨rfl,rfl⟩
 | 1,hj=>cases hj;exact .inr ⟨rfl,rfl⟩
 | j+2,hj=>simp at hj
theorem nan_raw (s:ByteArray) (W:World):Calls Tryz.prog 109 #[.string s] W fun e w'=>e=.returned (.bool false)∧w'=W:=by
 go_enter Tryz.func109,Tryz.ntmps109
 go_wp2
 go_ret
 simp
theorem cmp_raw (a b:ByteArray) (W:World):Calls Tryz.prog 39 #[.string a,.string b] W fun e w'=>e=.returned (.int .i64 (NA.cmpS a b))∧w'=W:=by
 have hn:=nan_raw
 go_enter Tryz.func39,Tryz.ntmps39
 go_wp2_with (go_at_call 109;refine (hn _ _).mono ?_;rintro e w' ⟨rfl,rfl⟩)
 all_goals (go_ret;refine ⟨?_,rfl⟩;unfold NA.cmpS;simp only[←ba_toList];simp_all)
theorem or_raw (x y:Int) (b:Nat) (W:World) (r:Int) (hr:(if x≠0 then x else y)=r) (h0:W.cell? ⟨b,0,none⟩=some (.int .i64 x)) (h1:W.cell? ⟨b,1,none⟩=some (.int .i64 y)) :
 Calls Tryz.prog 38 #[.slice (some ⟨b,0,none⟩) 2 2] W fun e w'=>e=.returned (.int .i64 r)∧w'=W:=by
 go_enter Tryz.func38,Tryz.ntmps38
 go_wp2
 refine wp_loop_rounds 3 ?_
 rw[rounds_succ]
 go_wp2
 all_goals try rw[rounds_succ]
 all_goals try go_wp2
 all_goals try rw[rounds_succ]
 all_goals try go_wp2
 all_goals (go_ret;refine ⟨?_,rfl⟩;rw[←hr];simp_all)
theorem cl_raw (x y:Nam) (W:World):Calls Tryz.prog 37 #[.agg #[.string x.acc,.string x.sym],.agg #[.string y.acc,.string y.sym]] W fun e w'=>e=.returned (.int .i64 (cmpN x y))∧∃q os',w'=grow (W.drewN q) os':=by
 obtain ⟨r,hr⟩:∃r,cmpN x y=r:=⟨_,rfl⟩
 rw[hr]
 go_enter Tryz.func37,Tryz.ntmps37
 go_wp2_with fail
 obtain ⟨W1,hW1⟩:∃W1,W.alloc (Obj.cells #[.string x.acc,.string x.sym] 111)=W1:=⟨_,rfl⟩
 obtain ⟨W2,hW2⟩:∃W2,W1.alloc (Obj.cells #[.string y.acc,.string y.sym] 111)=W2:=⟨_,rfl⟩
 rw[hW1,hW2]
 have c0:W2.cell? ⟨W.heap.size,0,none⟩=some (.string x.acc):=by rw[←hW2,←hW1,World.cell?_alloc_past _ _ _ (by rw[World.size_alloc];omega),World.cell?_alloc_at _ _ _ _ rfl];rfl
 have c1:W2.cell? ⟨W.heap.size,1,none⟩=some (.string x.sym):=by rw[←hW2,←hW1,World.cell?_alloc_past _ _ _ (by rw[World.size_alloc];omega),World.cell?_alloc_at _ _ _ _ rfl];rfl
 have c2:W2.cell? ⟨W.heap.size+1,0,none⟩=some (.string y.acc):=by rw[←hW2,World.cell?_alloc_at _ _ _ _ (by rw[←hW1,World.size_alloc])];rfl
 have c3:W2.cell? ⟨W.heap.size+1,1,none⟩=some (.string y.sym):=by rw[←hW2,World.cell?_alloc_at _ _ _ _ (by rw[←hW1,World.size_alloc])];rfl
 refine wp_region_still_tail 10 (by kernel_rfl) (by kernel_rfl) ?_
 simp only[List.take_succ_cons,List.take_zero,List.drop_succ_cons,List.drop_zero]
 generalize hW3:({ W2 with drawn:=W2.drawn+1 }:World)=W3
 have d0:W3.cell? ⟨W.heap.size,0,none⟩=some (.string x.acc):=by rw[←hW3];exact c0
 have d1:W3.cell? ⟨W.heap.size,1,none⟩=some (.string x.sym):=by rw[←hW3];exact c1
 have d2:W3.cell? ⟨W.heap.size+1,0,none⟩=some (.string y.acc):=by rw[←hW3];exact c2
 have d3:W3.cell? ⟨W.heap.size+1,1,none⟩=some (.string y.sym):=by rw[←hW3];exact c3
 repeat still_step
 still_call (cmp_raw _ _ _)
 repeat still_step
 still_call (cmp_raw _ _ _)
 refine wpStill_nil ?_
 go_wp2_with (go_at_call 38;refine (or_raw _ _ _ _ r hr (by rw[World.cell?_alloc_at _ _ _ _ rfl];rfl) (by rw[World.cell?_alloc_at _ _ _ _ rfl];rfl)).mono ?_;rintro e w' ⟨rfl,rfl⟩)
 go_ret
 refine ⟨rfl,1,#[.cells #[.string x.acc,.string x.sym] 111,.cells #[.string y.acc,.string y.sym] 111,.cells #[.int .i64 (NA.cmpS x.acc y.acc),.int .i64 (NA.cmpS x.sym y.sym)] 3],?_⟩
 have e1:W2=grow W #[.cells #[.string x.acc,.string x.sym] 111,.cells #[.string y.acc,.string y.sym] 111]:=by
  rw[←hW2,←hW1,alloc_eq_grow,alloc_eq_grow,grow_grow];rfl
 have e3:W3=grow (W.drewN 1) #[.cells #[.string x.acc,.string x.sym] 111,.cells #[.string y.acc,.string y.sym] 111]:=by
  rw[←hW3,e1];rfl
 rw[e3,alloc_eq_grow,grow_grow];rfl
end
theorem rowAt_nR (l:List Nam) (ty:Ty) (i off:Nat) (h:i<l.length):rowAt ty (l.map fun x=>[V.x (.string x.acc),V.x (.string x.sym)]) i off=[V.x (.string (l.getD i default).acc),V.x (.string (l.getD i default).sym)].drop off:=rowAt_map _ l ty i off h
def dedT (l:List Nam):Nat→List Nam
 | 0=>[]
 | m+1=>if 0<m∧l.getD m default=l.getD (m - 1) default then dedT l m else dedT l m++[l.getD m default]
def dedN (l:List Nam):List Nam:=dedT l l.length
theorem dedT_len (l:List Nam):∀m,(dedT l m).length≤m
 | 0=>Nat.le_refl _
 | m+1=>by
  have:=dedT_len l m
  rw[dedT]
  split
  ·omega
  ·rw[List.length_append];simp;omega
theorem dedT_one {l:List Nam} (h:0<l.length):dedT l 1=l.take 1:=by
 rw[dedT,if_neg (by omega),dedT]
 cases l with
 | nil=>simp at h
 | cons x l=>rfl
theorem nam_eq {a b:Nam}:a=b↔a.acc.data.toList=b.acc.data.toList∧a.sym.data.toList=b.sym.data.toList:=by
 constructor
 ·rintro rfl;exact ⟨rfl,rfl⟩
 ·rintro ⟨h1,h2⟩
  cases a;cases b
  simp only at h1 h2
  rw[NA.ba_eq h1,NA.ba_eq h2]
theorem take_ext {l:List Nam} {m:Nat} (h:m<l.length):l.take (m+1)=l.take m++[l.getD m default]:=by
 rw[List.take_add_one,List.getElem?_eq_getElem h,List.getD_eq_getElem?_getD,List.getElem?_eq_getElem h];rfl
def padN (l:List Nam) (n:Nat):List Nam:=l++List.replicate (n - l.length) default
theorem set_nR (q:List Nam) (i:Nat) (x:Nam) (h:i<q.length):(nR q).set i (splice ((nR q).getD i []) 0 [V.x (.string x.acc),V.x (.string x.sym)])=nR (q.set i x):=by
 have e:(nR q).getD i []=[V.x (.string (q.getD i default).acc),V.x (.string (q.getD i default).sym)]:=getD_map _ _ _ h
 rw[e]
 show _=(q.set i x).map _
 rw[List.map_set]
 rfl
theorem clr_nR (q:List Nam) (k:Nat) (h:k≤q.length):putRows (nR q) k (List.replicate (q.length - k) [V.x (.string ⟨#[]⟩),V.x (.string ⟨#[]⟩)])=nR (padN (q.take k) q.length):=by
 unfold putRows splice padN
 rw[List.length_replicate,List.drop_of_length_le (by rw[List.length_map];omega),List.append_nil]
 show _=List.map _ (List.take k q++List.replicate (q.length - (List.take k q).length) default)
 rw[List.map_append,List.map_take,List.map_replicate,List.length_take,Nat.min_eq_left h]
 rfl
def qCP1:=PLift.up (An @rowAt_nR (An @List.length_set.{0} @List.length_map.{0,0}))
theorem compact_c (l:List Nam) (hl:l.length≤1000000) (r:List Nam) (hr:dedN l=r):ACall Tryz.prog 40 [.row 2 (nR l)] [.e (.c (.o 0 l.length))] (.e (.c (.o 0 r.length))) [.row 2 (nR (padN r l.length))]:=by
 obtain ⟨N,hN⟩:∃N,l.length=N:=⟨_,rfl⟩
 unfold dedN at hr
 rw[hN]at hl hr ⊢
 have hrl:=dedT_len l N
 rw[hr]at hrl
 refine Ac Tryz.func40 ?_
 have hp1:True:=trivial
 have hp2:True:=trivial
 have hql:=hN
 refine Wo (Own.mk (f:=(oF [0]))) (An @hp1 (An @hp2 (An @hql qCP1.1))) trivial ?_
 refine Cc ?_ ?_<;>intro hc<;>(try simp only[Za,ne_eq]at hc)
 ·have e:r=l:=by
   rw[←hr]
   rcases (show N=0∨N=1 by omega) with h|h
   ·rw[h]at hN ⊢;rw[List.eq_nil_of_length_eq_zero hN];rfl
   ·rw[h]at hN ⊢;rw[dedT_one (by omega)];exact List.take_of_length_le (by omega)
  subst e
  refine Wo (Own.mk (f:=(oF [0]))) (An @hp1 (An @hp2 (An @hql qCP1.1))) trivial ?_
  refine Fs @Tryz.results40 ?_
  refine ⟨[0],[],[],by kernel_rfl,?_,?_⟩<;>((refine Lv (An @hp1 (An @hp2 (An @hql qCP1.1))) fun eE=>?_;first|exact Lw (@Box.out _ eE) trivial|refine Lw (@Box.out _ eE) ?_);try omega)
  all_goals (rw[padN,hN,Nat.sub_self];simp)
 ·refine Wo (Own.mk (f:=(oF [0]))) (An @hp1 (An @hp2 (An @hql qCP1.1))) trivial ?_
  refine AWp.loop (fun k:Nat=>mkSt [(0,.e (.c (.o 0 N))),(3,I k)] [(0,.row 2 (nR l))] 1) (fun k=>1≤k∧k≤N∧dedT l k=l.take k) (fun k=>N - k) 1 ⟨Nat.le_refl _,by omega,dedT_one (by omega)⟩ (by refine Le.of (τ:=[]) (ν:=[]) (by kernel_rfl) ?_ ?_<;>((refine Lv (An @hp1 (An @hp2 (An @hql qCP1.1))) fun eE=>?_;first|exact Lw (@Box.out _ eE) trivial|refine Lw (@Box.out _ eE) ?_);try omega)) fun k hk=>?_
  obtain ⟨hk1,hkN,hkd⟩:=hk
  clear hp1
  have hp1:((k:Int) - 1).toNat=k - 1:=by omega
  refine Wo (Own.mk (f:=(oF [0]))) (An @hp1 (An @hp2 (An @hql qCP1.1))) trivial ?_
  refine Cc ?_ ?_<;>intro hc<;>(try simp only[Za,ne_eq]at hc)
  ·have hkl:k<N:=by omega
   refine Wo (Own.mk (f:=(oF [0]))) (An @hp1 (An @hp2 (An @hql qCP1.1))) trivial ?_
   refine Cc ?_ ?_<;>intro hc<;>(try simp only[Za,ne_eq]at hc)
   ·have heq:dedT l (k+1)=l.take k:=by
     rw[dedT,if_pos ⟨hk1,nam_eq.2 hc⟩,hkd]
    refine Wo (Own.mk (f:=(oF [0]))) (An @hp1 (An @hp2 (An @hql qCP1.1))) trivial ?_
    refine AWp.loop (fun s:Nat×Nat×List Nam=>mkSt [(0,.e (.c (.o 0 N))),(3,I s.1),(4,.u 0 2 k (N - k)),(5,I s.2.1)] [(0,.row 2 (nR s.2.2))] 1)
     (fun s=>s.2.2.length=N∧1≤s.2.1∧k+s.2.1≤N∧s.1+1≤k+s.2.1∧s.2.2.take s.1=dedT l (k+s.2.1)∧(dedT l (k+s.2.1)).length=s.1∧∀j,k+s.2.1≤j+1→s.2.2.getD j default=l.getD j default) (fun s=>N - k - s.2.1)
     (k,1,l) ⟨hN,Nat.le_refl _,hkl,Nat.le_refl _,heq.symm,by rw[heq,List.length_take];omega,fun j _=>rfl⟩ (by refine Le.of (τ:=[]) (ν:=[]) (by kernel_rfl) ?_ ?_<;>((refine Lv (An @hp1 (An @hp2 (An @hql qCP1.1))) fun eE=>?_;first|exact Lw (@Box.out _ eE) trivial|refine Lw (@Box.out _ eE) ?_);try (first|omega|rfl|(simp[ren];done)))) fun s hs=>?_
    obtain ⟨kk,k2,q⟩:=s
    obtain ⟨hqN,h21,h2N,hkk,hqt,hqk,hqj⟩:=hs
    dsimp only at hqN h21 h2N hkk hqt hqk hqj ⊢
    clear hql hp1
    have hql:=hqN
    have hp1:((k2:Int) - 1).toNat=k2 - 1:=by omega
    have hp2:((N:Int) - (k:Int)).toNat=N - k:=by omega
    refine Wo (Own.mk (f:=(oF [0]))) (An @hp1 (An @hp2 (An @hql qCP1.1))) trivial ?_
    refine Cc ?_ ?_<;>intro hc<;>(try simp only[Za,ne_eq]at hc)
    ·have h2l:k+k2<N:=by omega
     have ej:=hqj (k+k2) (by omega)
     have ei:=hqj (k+(k2 - 1)) (by omega)
     refine Wo (Own.mk (f:=(oF [0]))) (An @hp1 (An @hp2 (An @hql qCP1.1))) trivial ?_
     refine Cc ?_ ?_<;>intro hc<;>(try simp only[Za,ne_eq]at hc)
     ·have hne:¬(0<k+k2∧l.getD (k+k2) default=l.getD (k+k2 - 1) default):=fun h=>by
       have h2:=h.2
       rw[←ej,show k+k2 - 1=k+(k2 - 1) by omega,←ei,nam_eq]at h2
       exact absurd h2 (by simpa[Classical.or_iff_not_imp_left] using hc)
      have hde:dedT l (k+(k2+1))=dedT l (k+k2)++[q.getD (k+k2) default]:=by
       rw[show k+(k2+1)=k+k2+1 by omega,dedT,if_neg hne,ej]
      have hkl2:kk<q.length:=by omega
      refine Wo (Own.mk (f:=(oF [0]))) (An @hp1 (An @hp2 (An @hql qCP1.1))) trivial ?_
      refine Zb (kk+1,k2+1,q.set kk (q.getD (k+k2) default)) ⟨by dsimp only;rw[List.length_set];exact hqN,by dsimp only;omega,by dsimp only;omega,by dsimp only;omega,by dsimp only;rw[hde,←hqt,take_ext (by rw[List.length_set];exact hkl2),List.take_set_of_le (Nat.le_refl _)];simp[List.getD_eq_getElem?_getD,hkl2],by dsimp only;rw[hde,List.length_append,hqk];rfl,fun j hj=>by
       dsimp only at hj ⊢
       rw[List.getD_eq_getElem?_getD,List.getElem?_set_ne (by omega),←List.getD_eq_getElem?_getD]
       exact hqj j (by omega)⟩ (by dsimp only;omega) (by refine Le.of (τ:=[]) (ν:=[]) (by kernel_rfl) ?_ ?_<;>((refine Lv (An @hp1 (An @hp2 (An @hql qCP1.1))) fun eE=>?_;first|exact Lw (@Box.out _ eE) trivial|refine Lw (@Box.out _ eE) ?_);try (first|omega|rfl|exact (set_nR _ _ _ hkl2).symm)))
     ·have hye:0<k+k2∧l.getD (k+k2) default=l.getD (k+k2 - 1) default:=⟨by omega,by
       rw[←ej,show k+k2 - 1=k+(k2 - 1) by omega,←ei,nam_eq]
       simpa using hc⟩
      have hde:dedT l (k+(k2+1))=dedT l (k+k2):=by
       rw[show k+(k2+1)=k+k2+1 by omega,dedT,if_pos hye]
      refine Wo (Own.mk (f:=(oF [0]))) (An @hp1 (An @hp2 (An @hql qCP1.1))) trivial ?_
      refine Zb (kk,k2+1,q) ⟨hqN,by dsimp only;omega,by dsimp only;omega,by dsimp only;omega,by dsimp only;rw[hde];exact hqt,by dsimp only;rw[hde];exact hqk,fun j hj=>hqj j (by dsimp only at hj;omega)⟩ (by dsimp only;omega) (by refine Le.of (τ:=[]) (ν:=[]) (by kernel_rfl) ?_ ?_<;>((refine Lv (An @hp1 (An @hp2 (An @hql qCP1.1))) fun eE=>?_;first|exact Lw (@Box.out _ eE) trivial|refine Lw (@Box.out _ eE) ?_);try (first|omega|rfl)))
    ·have hke:k+k2=N:=by omega
     rw[hke,hr]at hqt hqk
     subst hqk
     refine Wo (Own.mk (f:=(oF [0]))) (An @hp1 (An @hp2 (An @hql qCP1.1))) trivial ?_
     refine Fs @Tryz.results40 ?_
     refine ⟨[0],[],[],by kernel_rfl,?_,?_⟩<;>((refine Lv (An @hp1 (An @hp2 (An @hql qCP1.1))) fun eE=>?_;first|exact Lw (@Box.out _ eE) trivial|refine Lw (@Box.out _ eE) ?_);try omega)
     have:=clr_nR q r.length (by omega)
     rw[hqN,hqt]at this
     exact this.symm
   ·have hne:¬(0<k∧l.getD k default=l.getD (k - 1) default):=fun h=>by
     have h2:=h.2
     rw[nam_eq]at h2
     exact absurd h2 (by simpa[Classical.or_iff_not_imp_left] using hc)
    refine Wo (Own.mk (f:=(oF [0]))) (An @hp1 (An @hp2 (An @hql qCP1.1))) trivial ?_
    refine Zb (k+1) ⟨by omega,by omega,by rw[dedT,if_neg hne,hkd,take_ext (by omega)]⟩ (by omega) (by refine Le.of (τ:=[]) (ν:=[]) (by kernel_rfl) ?_ ?_<;>((refine Lv (An @hp1 (An @hp2 (An @hql qCP1.1))) fun eE=>?_;first|exact Lw (@Box.out _ eE) trivial|refine Lw (@Box.out _ eE) ?_);try omega))
  ·obtain rfl:k=N:=by omega
   have e:r=l:=by rw[←hr,hkd];exact List.take_of_length_le (by omega)
   subst e
   refine Wo (Own.mk (f:=(oF [0]))) (An @hp1 (An @hp2 (An @hql qCP1.1))) trivial ?_
   refine Fs @Tryz.results40 ?_
   refine ⟨[0],[],[],by kernel_rfl,?_,?_⟩<;>((refine Lv (An @hp1 (An @hp2 (An @hql qCP1.1))) fun eE=>?_;first|exact Lw (@Box.out _ eE) trivial|refine Lw (@Box.out _ eE) ?_);try omega)
   all_goals (rw[padN,hN,Nat.sub_self];simp)
end Eng
end Go.Proofs.YtgenjpingdkmgaaGreatDoor
namespace Go.Proofs.YtgenjpingdkmgaaGreatDoor
def layN_ren:Go.Shelf.Ren:=⟨fun|6=>36|14=>107|15=>108|20=>163|21=>164|22=>165|23=>166|24=>167|25=>168|26=>169|27=>170|28=>171|29=>172|46=>217|47=>218|48=>219|49=>220|50=>221|57=>259|n=>n,fun|0=>0|3=>3|4=>4|5=>5|9=>9|22=>107|24=>111|25=>115|39=>192|45=>255|46=>256|50=>187|53=>246|55=>209|66=>313|70=>317|76=>352|77=>151|n=>n,fun|n=>n⟩
theorem layN:SlLaysF0.n6 Tryz.prog layN_ren where
 mixed:=by kernel_rfl
 f6:=⟨ "slices.SortFunc[[]checkroll/ledger.name,checkroll/ledger.name]",by decide,Tryz.func36.trans (congrArg some (by kernel_rfl))⟩
 f14:=⟨ "slices.pdqsortCmpFunc[checkroll/ledger.name]",by decide,Tryz.func107.trans (congrArg some (by kernel_rfl))⟩
 f15:=Tryz.func108.trans (congrArg some (by kernel_rfl))
 f20:=⟨ "slices.insertionSortCmpFunc[checkroll/ledger.name]",by decide,Tryz.func163.trans (congrArg some (by kernel_rfl))⟩
 f21:=⟨ "slices.heapSortCmpFunc[checkroll/ledger.name]",by decide,Tryz.func164.trans (congrArg some (by kernel_rfl))⟩
 f22:=⟨ "slices.breakPatternsCmpFunc[checkroll/ledger.name]",by decide,Tryz.func165.trans (congrArg some (by kernel_rfl))⟩
 f23:=⟨ "slices.choosePivotCmpFunc[checkroll/ledger.name]",by decide,Tryz.func166.trans (congrArg some (by kernel_rfl))⟩
 f24:=⟨ "slices.reverseRangeCmpFunc[checkroll/ledger.name]",by decide,Tryz.func167.trans (congrArg some (by kernel_rfl))⟩
 f25:=⟨ "slices.partialInsertionSortCmpFunc[checkroll/ledger.name]",by decide,Tryz.func168.trans (congrArg some (by kernel_rfl))⟩
 f26:=⟨ "slices.partitionEqualCmpFunc[checkroll/ledger.name]",by decide,Tryz.func169.trans (congrArg some (by kernel_rfl))⟩
 f27:=⟨ "slices.partitionCmpFunc[checkroll/ledger.name]",by decide,Tryz.func170.trans (congrArg some (by kernel_rfl))⟩
 f28:=Tryz.func171.trans (congrArg some (by kernel_rfl))
 f29:=Tryz.func172.trans (congrArg some (by kernel_rfl))
 f46:=⟨ "slices.siftDownCmpFunc[checkroll/ledger.name]",by decide,Tryz.func217.trans (congrArg some (by kernel_rfl))⟩
 f47:=Tryz.func218.trans (congrArg some (by kernel_rfl))
 f48:=Tryz.func219.trans (congrArg some (by kernel_rfl))
 f49:=⟨ "slices.medianAdjacentCmpFunc[checkroll/ledger.name]",by decide,Tryz.func220.trans (congrArg some (by kernel_rfl))⟩
 f50:=⟨ "slices.medianCmpFunc[checkroll/ledger.name]",by decide,Tryz.func221.trans (congrArg some (by kernel_rfl))⟩
 f57:=⟨ "slices.order2CmpFunc[checkroll/ledger.name]",by decide,Tryz.func259.trans (congrArg some (by kernel_rfl))⟩
 t0:=Tryz.underlying0
 a0:=Tryz.isAgg0
 z0:=Tryz.sizeOf0
 v0:=Tryz.zeroValue0
 t3:=Tryz.underlying3
 a3:=Tryz.isAgg3
 z3:=Tryz.sizeOf3
 v3:=Tryz.zeroValue3
 t4:=Tryz.underlying4
 a4:=Tryz.isAgg4
 z4:=Tryz.sizeOf4
 v4:=Tryz.zeroValue4
 t5:=Tryz.underlying5
 a5:=Tryz.isAgg5
 z5:=Tryz.sizeOf5
 v5:=Tryz.zeroValue5
 t9:=Tryz.underlying9
 a9:=Tryz.isAgg9
 z9:=Tryz.sizeOf9
 v9:=Tryz.zeroValue9
 t22:=Tryz.underlying107
 a22:=Tryz.isAgg107
 z22:=Tryz.sizeOf107
 v22:=Tryz.zeroValue107
 t25:=Tryz.underlying115
 a25:=Tryz.isAgg115
 z25:=Tryz.sizeOf115
 v25:=Tryz.zeroValue115
 t39:=Tryz.underlying192
 a39:=Tryz.isAgg192
 z39:=Tryz.sizeOf192
 v39:=Tryz.zeroValue192
 t45:=Tryz.underlying255
 a45:=Tryz.isAgg255
 z45:=Tryz.sizeOf255
 v45:=Tryz.zeroValue255
 t46:=Tryz.underlying256
 a46:=Tryz.isAgg256
 z46:=Tryz.sizeOf256
 v46:=Tryz.zeroValue256
 t50:=Tryz.underlying187
 a50:=Tryz.isAgg187
 z50:=Tryz.sizeOf187
 v50:=Tryz.zeroValue187
 t53:=Tryz.underlying246
 a53:=Tryz.isAgg246
 z53:=Tryz.sizeOf246
 v53:=Tryz.zeroValue246
 t55:=Tryz.underlying209
 a55:=Tryz.isAgg209
 z55:=Tryz.sizeOf209
 v55:=Tryz.zeroValue209
 t66:=Tryz.underlying313
 a66:=Tryz.isAgg313
 z66:=Tryz.sizeOf313
 v66:=Tryz.zeroValue313
 t70:=Tryz.underlying317
 a70:=Tryz.isAgg317
 z70:=Tryz.sizeOf317
 v70:=Tryz.zeroValue317
 t76:=Tryz.underlying352
 a76:=Tryz.isAgg352
 z76:=Tryz.sizeOf352
 v76:=Tryz.zeroValue352
 t77:=Tryz.underlying151
 a77:=Tryz.isAgg151
 z77:=Tryz.sizeOf151
 v77:=Tryz.zeroValue151
namespace Eng
open Go.RowKit Go.Maps Go.Sort Go.Shelf
theorem ltN_iff {a b:Nam}:ltOf cmpN a b=true↔cmpN a b<0:=by unfold ltOf;simp
theorem ltN_no {a b:Nam}:ltOf cmpN a b=false↔NA.leP (toP b) (toP a):=by
 rw[←NA.not_lt];unfold ltOf;exact decide_eq_false_iff_not
theorem swoN:SWO (ltOf cmpN) where
 irrefl x:=by rw[ltN_no];exact NA.leP_refl _
 trans x y z h1 h2:=by rw[ltN_iff]at *;exact NA.cmpP_trans h1 h2
 ntrans x y z h1 h2:=by rw[ltN_no]at *;exact NA.Yh h2 h1
theorem totN (x y:Nam) (h1:ltOf cmpN x y=false) (h2:ltOf cmpN y x=false):x=y:=by
 rw[←cmpN_eq]
 rw[ltN_no]at h1 h2
 unfold NA.leP at h1 h2
 have:=NA.Yp (toP x) (toP y)
 unfold cmpN;omega
def sortN (l:List Nam):List Nam:=l.mergeSort fun x y=>!(ltOf cmpN) y x
theorem sortN_len (l:List Nam):(sortN l).length=l.length:=List.length_mergeSort ..
theorem cmpLays37 (blk off size:Nat) (w:World):CmpLays Tryz.prog 37 #[] encN 2 cmpN blk off size w:=fun _ _ _ _ x y=>cl_raw x y _
theorem sortN_c (l:List Nam) (hl:l.length≤1000000):ACall Tryz.prog 36 [.row 2 (nR l)] [.e (.c (.o 0 l.length)),NA.fD 37] (.t []) [.row 2 (nR (sortN l))]:=by
 refine ⟨⟨_,Tryz.func36,by kernel_rfl,by kernel_rfl⟩,fun own0 w ρ vs hm ha=>?_⟩
 match vs,ha with
 | [u,u2],⟨hu,h2,_⟩ =>
  obtain ⟨rfl,_⟩:=rep_x h2
  obtain ⟨m,hp,hv⟩:=hu
  obtain ⟨hlen,m',hp',hb⟩:=hm.blks 0 _ rfl
  rw[hp]at hp'
  cases hp'
  cases m with
  | nil =>
   obtain ⟨hn,a,rfl⟩:=hv
   have:l=[]:=List.eq_nil_of_length_eq_zero hn
   subst this
   refine (AnyF.slices_SortFunc_none layN a 0 (.func (.func 37) #[] #[]) w).mono ?_
   rintro e w' ⟨rfl,rfl⟩
   have e:sortN []=[]:=by simp[sortN]
   rw[e]
   exact ⟨_,ρ,rfl,Sub.refl _,⟨[],rfl,trivial⟩,hm⟩
  | blk b base cap =>
   obtain ⟨rfl,hcap⟩:=hv
   obtain ⟨h1,cs,T,fr,hh,hf,hsz,hcells⟩:=hb
   have hblk:b<w.heap.size:=(Array.getElem?_eq_some_iff.1 hh).1
   have hlb:base+l.length*2≤cs.size:=by omega
   have hin:∀t,t<l.length*2→cs[base+t]?=some ((encN (l.toArray[t / 2]!))[t % 2]!):=fun t ht=>by
    have hi:t / 2<l.length:=by omega
    have e1:(nR l)[t / 2]?=some [.x (.string l[t / 2].acc),.x (.string l[t / 2].sym)]:=by simp[hi]
    have e2:l.toArray[t / 2]! = l[t / 2]:=by simp[hi]
    rw[e2]
    rcases (show t % 2=0∨t % 2=1 by omega) with h|h
    ·obtain ⟨x,hx,hr⟩:=hcells (t / 2) _ 0 _ e1 rfl
     cases hr
     rw[show base+t=base+t / 2*2+0 by omega,hx,h];rfl
    ·obtain ⟨x,hx,hr⟩:=hcells (t / 2) _ 1 _ e1 rfl
     cases hr
     rw[show base+t=base+t / 2*2+1 by omega,hx,h];rfl
   have hnf:∀k,k<cs.size→¬(fr.1≤k∧k<fr.2):=fun k hk=>hf.1.off k hk
   have hH:HoldsK encN 2 w b base l.toArray:=fun j hj=>by
    have hj:j<l.length*2:=by simpa using hj
    rw[get_flatK _ _ _ _ (by simpa using hj)]
    constructor
    ·simp only[World.cell?,hh,Option.isSome_none,Bool.false_eq_true,if_false]
     exact hin j hj
    ·simp only[World.frozen?,hh]
     have:=hnf (base+j) (by omega)
     simpa using this
   have eg:∀args w,(callFunc 37 args).run Tryz.prog w=.ok (.enter 37 args) w:=enters_of Tryz.func37 (by kernel_rfl) rfl
   have hS:=AnyQ.slices_SortFunc_total layN 2 Tryz.isAgg111 Tryz.sizeOf111 encN (fun _=>rfl) (fun x v hv=>by simp[encN]at hv;rcases hv with rfl|rfl<;>rfl) cmpN swoN 37 #[] b base cap l.toArray w eg (cmpLays37 b base _ w) hH hblk (by simp;omega) totN
   rw[show (l.toArray.toList.mergeSort fun x y=>!(ltOf cmpN) y x)=sortN l from rfl,show l.toArray.size=l.length by simp]at hS
   refine hS.mono ?_
   rintro e w' ⟨rfl,n,os,rfl⟩
   refine ⟨_,ρ,rfl,Sub.refl _,⟨[],rfl,trivial⟩,?_⟩
   have hM:=sortN_len l
   generalize sortN l=S at hM ⊢
   have hb':(sortWorldK encN 2 w b base n S.toArray os).heap[b]?=some (.cells (putCells id base (flatK encN 2 S.toArray) cs) T fr):=by
    unfold sortWorldK putRowK
    rw[heap_grow_old _ _ (by simpa using hblk)]
    simp[putRow,mapBlock,Sort.ahead,Array.getElem?_modify,hh,onCells]
   obtain ⟨W',hW'⟩:∃W',sortWorldK encN 2 w b base n S.toArray os=W':=⟨_,rfl⟩
   have f1:W'.os=w.os:=by rw[←hW'];rfl
   have f2:W'.tape=w.tape:=by rw[←hW'];rfl
   have f3:W'.output=w.output:=by rw[←hW'];rfl
   have f4:w.heap.size≤W'.heap.size:=by rw[←hW'];unfold sortWorldK putRowK;simp
   have f5:∀k,k<w.heap.size→k≠b→W'.heap[k]?=w.heap[k]?:=fun k hk hne=>by
    rw[←hW']
    unfold sortWorldK putRowK
    rw[heap_grow_old _ _ (by simpa using hk)]
    have:b≠k:=fun e=>hne (by rw[e])
    simp[putRow,mapBlock,Sort.ahead,Array.getElem?_modify,this]
   rw[hW']at hb' ⊢
   clear hW'
   have hr:RepB W' (Ow own0 ρ fun i=>[Blk.row 2 (nR l)][i]?) ρ 0 (.row 2 (nR S)):=by
    refine ⟨fun r hr=>?_,_,hp,?_,_,T,fr,hb',hf.size (by simp[putCells]),?_,fun i r j v hi hj=>?_⟩
    ·obtain ⟨s,_,rfl⟩:=List.mem_map.1 hr;rfl
    ·rw[List.length_map,hM];exact hcap
    ·simpa[putCells] using hsz
    ·obtain ⟨x,hx,hjv⟩:=rowN_one hi hj
     obtain ⟨hil,hxe⟩:=List.getElem?_eq_some_iff.1 hx
     have hj2:j<2:=by rcases hjv with ⟨rfl,_⟩|⟨rfl,_⟩<;>omega
     have hk:base+i*2+j<cs.size:=by omega
     have hget:(putCells id base (flatK encN 2 S.toArray) cs)[base+i*2+j]?=some ((encN x)[j]!):=by
      simp only[putCells,Array.getElem?_mapIdx,Array.getElem?_eq_getElem hk,Option.map_some]
      rw[if_pos ⟨by omega,by rw[size_flatK];simp;omega⟩,id,get_flatK _ _ _ _ (by simp;omega)]
      have q1:(base+i*2+j - base) / 2=i:=by omega
      have q2:(base+i*2+j - base) % 2=j:=by omega
      rw[q1,q2]
      simp[hil,hxe]
     rcases hjv with ⟨rfl,rfl⟩|⟨rfl,rfl⟩
     ·exact ⟨_,hget,.x _ rfl⟩
     ·exact ⟨_,hget,.x _ rfl⟩
   have:=(mem_put hm hp rfl rfl f1 f2 f3 f4 f5 hb' hr).1
   have eH:upd (fun i=>[Blk.row 2 (nR l)][i]?) 0 (some (.row 2 (nR S)))=fun i=>[Blk.row 2 (nR S)][i]?:=by
    funext i
    cases i with
    | zero=>rfl
    | succ i=>simp[upd]
   rwa [eH]at this
end Eng
end Go.Proofs.YtgenjpingdkmgaaGreatDoor
namespace Go.Proofs.YtgenjpingdkmgaaGreatDoor
namespace Eng
def selF (a s:ByteArray) (f:Fil):Bool:=f.lv && hitW a s f.acc f.sym
def sgnF (f:Fil):Int:=if f.buy then f.qty else -f.qty
noncomputable def mulF (f:Fil):Int×Bool:=NA.mulS (sgnF f) f.price
open Classical in
noncomputable def posL (a s:ByteArray) (l:List Fil):NA.Pos :=
 if (∀f,f∈l→(mulF f).2=true)∧(NA.sumS (l.map sgnF)).2=true∧(NA.sumS (l.map fun f=>(mulF f).1)).2=true then ⟨a,s,(NA.sumS (l.map sgnF)).1,(NA.sumS (l.map fun f=>(mulF f).1)).1,false⟩ else ⟨a,s,0,0,true⟩
noncomputable def posOf (b:Bk) (a s:ByteArray):NA.Pos:=posL a s (b.fills.filter (selF a s))
theorem filt_no {p:Fil→Bool} {l:List Fil} {i:Nat} (h:i<l.length) (hp:p (l.getD i default)=false):(l.take (i+1)).filter p=(l.take i).filter p:=by
 rw[List.getD_eq_getElem?_getD,List.getElem?_eq_getElem h,Option.getD_some]at hp
 rw[List.take_add_one,List.getElem?_eq_getElem h,List.filter_append,Option.toList_some,List.filter_cons,hp]
 simp
theorem filt_yes {p:Fil→Bool} {l:List Fil} {i:Nat} (h:i<l.length) (hp:p (l.getD i default)=true):(l.take (i+1)).filter p=(l.take i).filter p++[l.getD i default]:=by
 rw[List.getD_eq_getElem?_getD,List.getElem?_eq_getElem h,Option.getD_some]at hp ⊢
 rw[List.take_add_one,List.getElem?_eq_getElem h,List.filter_append,Option.toList_some,List.filter_cons,hp]
 simp
theorem filt_len {p:Fil→Bool} {l:List Fil} {i:Nat}:((l.take i).filter p).length≤l.length :=
 Nat.le_trans (List.length_filter_le ..) (by rw[List.length_take];omega)
def qLO1:=PLift.up (An @Z3 (An @neg_w (An @List.map_append.{0,0} (An @List.map_cons.{0,0} (An @List.map_nil.{0,0} (An @List.length_append.{0} (An @List.length_cons.{0} (An @List.length_nil.{0} @List.length_map.{0,0}))))))))
theorem lof_c (b:Bk) (acc sym:ByteArray) (h:bkP b) (r:NA.Pos) (hr:posOf b acc sym=r):ACall Tryz.prog 26 [] [bkD b,StD acc,StD sym] (NA.pD r) []:=by
 have hright:=bkRight_c b h
 have hfl:=h.fl
 refine Ac Tryz.func26 ?_
 refine Wk qLO1.1 @hright ?_
 refine Cc ?_ ?_<;>intro hc<;>(try simp only[Za,ne_eq]at hc)
 ·contradiction
 ·refine Wk qLO1.1 @hright ?_
  refine AWp.loop (fun s:Nat×List Int×List Int=>mkSt [(1,StD acc),(2,StD sym),(6,.p 0 0),(7,.p 1 0),(8,.e (.c (.o 2 s.2.1.length))),(9,.e (.c (.o 3 s.2.2.length))),(27,fsD b.fills),(28,I b.fills.length),(29,I s.1)] [(0,.loc (NA.pC ⟨⟨#[]⟩,⟨#[]⟩,0,0,false⟩)),(1,.loc (NA.pC ⟨acc,sym,0,0,false⟩)),(2,.row 1 (NA.iR s.2.1)),(3,.row 1 (NA.iR s.2.2))] 4)
   (fun s=>s.1≤b.fills.length∧s.2.1=((b.fills.take s.1).filter (selF acc sym)).map sgnF∧s.2.2=((b.fills.take s.1).filter (selF acc sym)).map (fun f=>(mulF f).1)∧∀f,f∈(b.fills.take s.1).filter (selF acc sym)→(mulF f).2=true)
   (fun s=>b.fills.length - s.1) (0,[],[]) ⟨Nat.zero_le _,rfl,rfl,fun f hf=>by simp at hf⟩ (by refine Le.of (τ:=[(0,64),(1,320)]) (ν:=[2,3]) (by kernel_rfl) ?_ ?_<;>((first|exact Lw qLO1.1 trivial|refine Lw qLO1.1 ?_);try (first|omega|rfl|exact ⟨rfl,rfl⟩))) fun st hst=>?_
  obtain ⟨i,qs,vs⟩:=st
  obtain ⟨hi,hqs,hvs,hov⟩:=hst
  dsimp only at hi hqs hvs hov ⊢
  have hql:qs.length≤b.fills.length:=by rw[hqs,List.length_map];exact filt_len
  have hvl:vs.length≤b.fills.length:=by rw[hvs,List.length_map];exact filt_len
  refine Wk qLO1.1 @hright ?_
  refine Cc ?_ ?_<;>intro hc<;>(try simp only[Za,ne_eq]at hc)
  ·have hil:i<b.fills.length:=by omega
   obtain ⟨hq,hp,ht0,ht1,hm⟩:=h.fills _ (getD_memF hil)
   have hqr:=amt_rng hq
   have hz:=@filt_yes (selF acc sym) b.fills i hil
   have hn:=@filt_no (selF acc sym) b.fills i hil
   have hin:=getD_memF hil
   generalize hof:b.fills.getD i default=f at hq hp ht0 ht1 hm hqr hz hn hin
   refine Wk (An @hof qLO1.1) @hright ?_
   refine Cc ?_ ?_<;>intro hc<;>(try simp only[Za,ne_eq]at hc)
   ·have e:selF acc sym f=false:=by
     unfold selF
     rw[Bool.eq_false_iff]
     rw[Ne,Bool.and_eq_true,hit_t]
     rintro ⟨h1,h2,h3⟩
     rcases hc with (hc|hc)|hc
     ·simp[h1]at hc
     ·exact hc h2
     ·exact hc h3
    refine Wk (An @hof qLO1.1) @hright ?_
    refine Zb (i+1,qs,vs) ⟨hil,by rw[hn e];exact hqs,by rw[hn e];exact hvs,by rw[hn e];exact hov⟩ (by dsimp only;omega) (by refine Le.of (τ:=[]) (ν:=[]) (by kernel_rfl) ?_ ?_<;>((refine Lv (An @hof qLO1.1) fun eE=>?_;first|exact Lw (@Box.out _ eE) trivial|refine Lw (@Box.out _ eE) ?_);try (first|omega|rfl)))
   ·have hh:selF acc sym f=true:=by
     unfold selF
     rw[Bool.and_eq_true,hit_t]
     exact ⟨by simpa using hc.1.1,by simpa using hc.1.2,by simpa using hc.2⟩
    obtain ⟨⟨mv,mb⟩,hM⟩:∃x,mulF f=x:=⟨_,rfl⟩
    have hno:mb=false→r=⟨acc,sym,0,0,true⟩:=fun e=>by
     rw[←hr,posOf,posL,if_neg]
     rintro ⟨h1,_⟩
     have:=h1 f (List.mem_filter.2 ⟨hin,hh⟩)
     rw[hM,e]at this
     cases this
    have hnx:mb=true→(i+1≤b.fills.length∧qs++[sgnF f]=((b.fills.take (i+1)).filter (selF acc sym)).map sgnF∧vs++[mv]=((b.fills.take (i+1)).filter (selF acc sym)).map (fun f=>(mulF f).1)∧∀f,f∈(b.fills.take (i+1)).filter (selF acc sym)→(mulF f).2=true):=fun e=>by
     rw[hz hh]
     refine ⟨hil,?_,?_,fun g hg=>?_⟩
     ·rw[List.map_append,←hqs];rfl
     ·rw[List.map_append,←hvs];simp[hM]
     ·rcases List.mem_append.1 hg with hg|hg
      ·exact hov g hg
      ·rw[List.mem_singleton.1 hg,hM];exact e
    have hmul:=NA.mul_c (sgnF f) f.price (mv,mb) hM
    cases hby:f.buy with
    | true =>
     have e1:sgnF f=f.qty:=by unfold sgnF;rw[hby];rfl
     rw[e1]at hmul hnx
     refine Wk (An @hof qLO1.1) (An @hright @hmul) ?_
     refine Cc ?_ ?_<;>intro hc<;>(try simp only[Za,ne_eq]at hc)
     ·contradiction
     ·cases mb with
      | false =>
       rw[hno rfl]
       refine Wk (An @hof qLO1.1) (An @hright @hmul) ?_
       refine Cc ?_ ?_<;>intro hc<;>(try simp only[Za,ne_eq]at hc)
       ·refine Wk (An @hof qLO1.1) (An @hright @hmul) ?_
        first|exact Fn @Tryz.results26 (An @hof qLO1.1) trivial|refine Fn @Tryz.results26 (An @hof qLO1.1) ?_
       ·contradiction
      | true =>
       refine Wk (An @hof qLO1.1) (An @hright @hmul) ?_
       refine Cc ?_ ?_<;>intro hc<;>(try simp only[Za,ne_eq]at hc)
       ·contradiction
       ·refine Wk (An @hof qLO1.1) (An @hright @hmul) ?_
        refine Zb (i+1,qs++[f.qty],vs++[mv]) (hnx rfl) (by dsimp only;omega) (by refine Le.of (τ:=[(2,2564),(3,2884)]) (ν:=[]) (by kernel_rfl) ?_ ?_<;>((refine Lv (An @hof qLO1.1) fun eE=>?_;first|exact Lw (@Box.out _ eE) trivial|refine Lw (@Box.out _ eE) ?_);try (first|omega|rfl)))
    | false =>
     have e1:sgnF f=-f.qty:=by unfold sgnF;rw[hby];rfl
     have hb1:=Int.zero_sub f.qty
     rw[e1]at hmul hnx
     refine Wk (An @hb1 (An @hof qLO1.1)) (An @hright @hmul) ?_
     refine Cc ?_ ?_<;>intro hc<;>(try simp only[Za,ne_eq]at hc)
     ·refine Wk (An @hb1 (An @hof qLO1.1)) (An @hright @hmul) ?_
      cases mb with
      | false =>
       rw[hno rfl]
       refine Wk (An @hb1 (An @hof qLO1.1)) (An @hright @hmul) ?_
       refine Cc ?_ ?_<;>intro hc<;>(try simp only[Za,ne_eq]at hc)
       ·refine Wk (An @hb1 (An @hof qLO1.1)) (An @hright @hmul) ?_
        first|exact Fn @Tryz.results26 (An @hb1 (An @hof qLO1.1)) trivial|refine Fn @Tryz.results26 (An @hb1 (An @hof qLO1.1)) ?_
       ·contradiction
      | true =>
       refine Wk (An @hb1 (An @hof qLO1.1)) (An @hright @hmul) ?_
       refine Cc ?_ ?_<;>intro hc<;>(try simp only[Za,ne_eq]at hc)
       ·contradiction
       ·refine Wk (An @hb1 (An @hof qLO1.1)) (An @hright @hmul) ?_
        refine Zb (i+1,qs++[-f.qty],vs++[mv]) (hnx rfl) (by dsimp only;omega) (by refine Le.of (τ:=[(2,2756),(3,3076)]) (ν:=[]) (by kernel_rfl) ?_ ?_<;>((refine Lv (An @hb1 (An @hof qLO1.1)) fun eE=>?_;first|exact Lw (@Box.out _ eE) trivial|refine Lw (@Box.out _ eE) ?_);try (first|omega|rfl)))
     ·contradiction
  ·obtain rfl:i=b.fills.length:=by omega
   rw[List.take_length]at hqs hvs hov
   obtain ⟨⟨q,qb⟩,hQ⟩:∃x,NA.sumS qs=x:=⟨_,rfl⟩
   obtain ⟨⟨v,vb⟩,hV⟩:∃x,NA.sumS vs=x:=⟨_,rfl⟩
   have hs1:=NA.sum53_c qs (by omega) _ hQ
   have hs2:=NA.sum53_c vs (by omega) _ hV
   unfold posOf posL at hr
   rw[←hqs,←hvs,hQ,hV]at hr
   by_cases hb:qb=true∧vb=true
   ·rw[if_pos ⟨hov,hb⟩]at hr
    obtain ⟨rfl,rfl⟩:=hb
    subst hr
    refine Wk qLO1.1 (An @hright (An @hs1 @hs2)) ?_
    refine Cc ?_ ?_<;>intro hc<;>(try simp only[Za,ne_eq]at hc)
    ·first|contradiction|(simp at hc;done)
    ·refine Wk qLO1.1 (An @hright (An @hs1 @hs2)) ?_
     first|exact Fn @Tryz.results26 qLO1.1 trivial|refine Fn @Tryz.results26 qLO1.1 ?_
   ·rw[if_neg (fun h=>hb h.2)]at hr
    subst hr
    refine Wk qLO1.1 (An @hright (An @hs1 @hs2)) ?_
    refine Cc ?_ ?_<;>intro hc<;>(try simp only[Za,ne_eq]at hc)
    ·refine Wk qLO1.1 (An @hright (An @hs1 @hs2)) ?_
     first|exact Fn @Tryz.results26 qLO1.1 trivial|refine Fn @Tryz.results26 qLO1.1 ?_
    ·exact absurd hc (by simpa using hb)
end Eng
end Go.Proofs.YtgenjpingdkmgaaGreatDoor
