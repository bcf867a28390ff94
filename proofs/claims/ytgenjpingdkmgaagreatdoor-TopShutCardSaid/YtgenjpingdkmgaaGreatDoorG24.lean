/- Contracts of functions that this seat's law calls. No condition. -/
import Derived.Test.YtgenjpingdkmgaaGreatDoorRows
import Derived.Shelf.Strings.OnBuilder
import Derived.Test.YtgenjpingdkmgaaGreatDoorG23
set_option maxRecDepth 100000
set_option linter.unusedSimpArgs false
set_option linter.unusedVariables false
namespace Go.Proofs.YtgenjpingdkmgaaGreatDoor
namespace Eng
abbrev aV (a:Ask):List V:=[vI a.kind,vI a.ven,vS a.o.id,vS a.o.acc,vS a.o.sym,vB a.o.buy,vI a.o.qty,vI a.o.price,vI a.o.done,vB a.o.op,vS a.id,
 vS a.x.id,vS a.x.ref,vS a.x.ord,vS a.x.acc,vS a.x.sym,vI a.x.kind,vB a.x.buy,vI a.x.qty,vI a.x.price,vI a.x.time,vI a.now,vB a.on,
 vS a.l.acc,vS a.l.sym,vI a.l.long,vI a.l.short,vI a.l.qty,vI a.l.value]
instance:Inhabited Ask:=⟨⟨0,0,default,default,⟨⟨#[]⟩,⟨#[]⟩,⟨#[]⟩,⟨#[]⟩,⟨#[]⟩,0,false,0,0,0⟩,0,false,default⟩⟩
abbrev aR (l:List Ask):List (List V):=l.map aV
abbrev asksD (l:List Ask):D:=.e (.c (.v (.s 29 (aR l))))
theorem getD_aR (l:List Ask) (i:Nat) (d:List V) (h:i<l.length):(l.map aV).getD i d=aV (l.getD i default):=by
 simp[List.getD_eq_getElem?_getD,h]
def qLS1:=PLift.up (An @getD_aR (An @NA.Zc (An @getD_vR @NO.Ze)))
theorem shut_run (hW:ACall Tryz.prog 6 [] [] (B true) []) (l:List Ask) (o:Ord) (ls:List NA.Lim):ACall Tryz.prog 4 [] [asksD l,NO.oD o,NA.lsD ls] (B true) []:=by
 obtain ⟨sb,hsb⟩:∃b,[o].all shO=b:=⟨_,rfl⟩
 have hs:=short_c [o] (by simp) sb hsb
 have hnew:ACall Tryz.prog 7 [] [I 1,I 20] (.t [.a (keC (newE 1 20) (newG 1 20)),.c (.v (vI 0))]) []:=knew_c 1 20 (by omega) (by omega) (by unfold timeP;omega)
 refine Ac Tryz.func4 ?_
 by_cases h24:24<l.length
 ·have e24:decide ((24:Int)<(l.length:Int))=true:=decide_eq_true (by omega)
  refine Wk (An @e24 qLS1.1) (An @hW (An @hs @hnew)) ?_
  refine Cc ?_ ?_<;>intro hc<;>(try simp only[Za,ne_eq]at hc)
  ·contradiction
  ·refine Wk (An @e24 qLS1.1) (An @hW (An @hs @hnew)) ?_
   refine Cc ?_ ?_<;>intro hc<;>(try simp only[Za,ne_eq]at hc)
   ·refine Wk (An @e24 qLS1.1) (An @hW (An @hs @hnew)) ?_
    first|exact Fn @Tryz.results4 (An @e24 qLS1.1) trivial|refine Fn @Tryz.results4 (An @e24 qLS1.1) ?_
   ·contradiction
 ·have e24:decide ((24:Int)<(l.length:Int))=false:=decide_eq_false (by omega)
  by_cases h6:6<ls.length
  ·have e6:decide ((6:Int)<(ls.length:Int))=true:=decide_eq_true (by omega)
   refine Wk (An @e24 (An @e6 qLS1.1)) (An @hW (An @hs @hnew)) ?_
   refine Cc ?_ ?_<;>intro hc<;>(try simp only[Za,ne_eq]at hc)
   ·contradiction
   ·refine Wk (An @e24 (An @e6 qLS1.1)) (An @hW (An @hs @hnew)) ?_
    refine Cc ?_ ?_<;>intro hc<;>(try simp only[Za,ne_eq]at hc)
    ·refine Wk (An @e24 (An @e6 qLS1.1)) (An @hW (An @hs @hnew)) ?_
     first|exact Fn @Tryz.results4 (An @e24 (An @e6 qLS1.1)) trivial|refine Fn @Tryz.results4 (An @e24 (An @e6 qLS1.1)) ?_
    ·contradiction
  ·have e6:decide ((6:Int)<(ls.length:Int))=false:=decide_eq_false (by omega)
   cases sb with
   | false =>
    refine Wk (An @e24 (An @e6 qLS1.1)) (An @hW (An @hs @hnew)) ?_
    refine Cc ?_ ?_<;>intro hc<;>(try simp only[Za,ne_eq]at hc)
    ·contradiction
    ·refine Wk (An @e24 (An @e6 qLS1.1)) (An @hW (An @hs @hnew)) ?_
     refine Cc ?_ ?_<;>intro hc<;>(try simp only[Za,ne_eq]at hc)
     ·refine Wk (An @e24 (An @e6 qLS1.1)) (An @hW (An @hs @hnew)) ?_
      first|exact Fn @Tryz.results4 (An @e24 (An @e6 qLS1.1)) trivial|refine Fn @Tryz.results4 (An @e24 (An @e6 qLS1.1)) ?_
     ·contradiction
   | true =>
    refine Wk (An @e24 (An @e6 qLS1.1)) (An @hW (An @hs @hnew)) ?_
    refine Cc ?_ ?_<;>intro hc<;>(try simp only[Za,ne_eq]at hc)
    ·contradiction
    ·refine Wk (An @e24 (An @e6 qLS1.1)) (An @hW (An @hs @hnew)) ?_
     refine Cc ?_ ?_<;>intro hc<;>(try simp only[Za,ne_eq]at hc)
     ·contradiction
     ·refine Wk (An @e24 (An @e6 qLS1.1)) (An @hW (An @hs @hnew)) ?_
      have hk0:=newE_right 1 20
      have hg0:gatP (newG 1 20):=newG_right (by omega) (by omega) (by unfold timeP;omega)
      have hp0:(newG 1 20).pat=20:=rfl
      refine AWp.loop (fun s:Nat×Gat=>mkSt [(0,asksD l),(2,NA.lsD ls),(4,.p 0 0),(7,.p 1 0),(8,I 0),(9,I s.1)] [(0,.loc (NO.oC o)),(1,.loc (keC (newE 1 20) s.2))] 2)
       (fun s=>s.1≤ls.length∧gatP s.2∧s.2.pat=20) (fun s=>ls.length - s.1) (0,newG 1 20) ⟨Nat.zero_le _,hg0,hp0⟩ (by refine Le.of (τ:=[(1,1408)]) (ν:=[]) (by kernel_rfl) ?_ ?_<;>((refine Lv (An @e24 (An @e6 qLS1.1)) fun eE=>?_;first|exact Lw (@Box.out _ eE) trivial|refine Lw (@Box.out _ eE) ?_);try (first|omega|rfl|exact ⟨rfl,rfl⟩))) fun s hs=>?_
      obtain ⟨i,g⟩:=s
      obtain ⟨hi,hg,hp⟩:=hs
      dsimp only at hi hg hp ⊢
      refine Wk (An @e24 (An @e6 qLS1.1)) (An @hW (An @hs @hnew)) ?_
      refine Cc ?_ ?_<;>intro hc<;>(try simp only[Za,ne_eq]at hc)
      ·have hil:i<ls.length:=by omega
       have hlim:=limit_c g (ls.getD i default) hg _ rfl
       refine Wk (An @e24 (An @e6 qLS1.1)) (An @hW (An @hs (An @hnew @hlim))) ?_
       refine Zb (i+1,(limitG g (ls.getD i default)).1) ⟨by dsimp only;omega,limit_right hg,by rw[limit_pat];exact hp⟩ (by dsimp only;omega) (by refine Le.of (τ:=[]) (ν:=[]) (by kernel_rfl) ?_ ?_<;>((refine Lv (An @e24 (An @e6 qLS1.1)) fun eE=>?_;first|exact Lw (@Box.out _ eE) trivial|refine Lw (@Box.out _ eE) ?_);try omega))
      ·refine Wk (An @e24 (An @e6 qLS1.1)) (An @hW (An @hs @hnew)) ?_
       refine AWp.loop (fun s:Nat×Kee×Gat=>mkSt [(0,asksD l),(4,.p 0 0),(7,.p 1 0),(8,I 0),(10,I s.1)] [(0,.loc (NO.oC o)),(1,.loc (keC s.2.1 s.2.2))] 2)
        (fun s=>s.1≤l.length∧keeP s.2.1∧gatP s.2.2∧s.2.2.pat=20) (fun s=>l.length - s.1) (0,newE 1 20,g) ⟨Nat.zero_le _,hk0,hg,hp⟩ (by refine Le.of (τ:=[]) (ν:=[]) (by kernel_rfl) ?_ ?_<;>((refine Lv (An @e24 (An @e6 qLS1.1)) fun eE=>?_;first|exact Lw (@Box.out _ eE) trivial|refine Lw (@Box.out _ eE) ?_);try (first|omega|rfl|exact ⟨rfl,rfl⟩))) fun s hs=>?_
       clear hk0 hg0 hp0 hg hp hi hc
       obtain ⟨j,k,g⟩:=s
       obtain ⟨hj,hk,hg,hp⟩:=hs
       dsimp only at hj hk hg hp ⊢
       refine Wk (An @e24 (An @e6 qLS1.1)) (An @hW (An @hs @hnew)) ?_
       refine Cc ?_ ?_<;>intro hc<;>(try simp only[Za,ne_eq]at hc)
       ·have hjl:j<l.length:=by omega
        have hdo:=do_c k g (l.getD j default) hk hg _ rfl
        have hpr:=doK_right (a:=l.getD j default) hk hg
        refine Wk (An @e24 (An @e6 qLS1.1)) (An @hW (An @hs (An @hnew @hdo))) ?_
        refine Zb (j+1,(doK k g (l.getD j default)).1.1,(doK k g (l.getD j default)).1.2) ⟨by dsimp only;omega,hpr.1,hpr.2,by dsimp only;rw[do_pat];exact hp⟩ (by dsimp only;omega) (by refine Le.of (τ:=[]) (ν:=[]) (by kernel_rfl) ?_ ?_<;>((refine Lv (An @e24 (An @e6 qLS1.1)) fun eE=>?_;first|exact Lw (@Box.out _ eE) trivial|refine Lw (@Box.out _ eE) ?_);try omega))
       ·have hgn:=hg.now
        unfold timeP at hgn
        refine Wk (An @e24 (An @e6 qLS1.1)) (An @hW (An @hs @hnew)) ?_
        refine Cc ?_ ?_<;>intro hc<;>(try simp only[Za,ne_eq]at hc)
        ·refine Wk (An @e24 (An @e6 qLS1.1)) (An @hW (An @hs @hnew)) ?_
         first|exact Fn @Tryz.results4 (An @e24 (An @e6 qLS1.1)) trivial|refine Fn @Tryz.results4 (An @e24 (An @e6 qLS1.1)) ?_
        ·have hT:tickG g (g.now+21)=({ g with now:=g.now+21 },0):=by unfold tickG;rw[if_neg (by omega)]
         have htick:=tick_c g (g.now+21) hg _ hT
         have hL:=tick_right (now:=g.now+21) hg
         rw[hT]at hL
         have hll:(vat ({ g with now:=g.now+21 }:Gat) 0).last≤({ g with now:=g.now+21 }:Gat).now - 21:=by
          have:=(hg.vens _ (vat_mem (show isAt g 0 from ⟨by decide,by have:=hg.n.1;omega⟩))).last
          show (vat g 0).last≤g.now+21 - 21
          omega
         have hlp:({ g with now:=g.now+21 }:Gat).pat=20:=hp
         dsimp only at htick hL
         generalize ({ g with now:=g.now+21 }:Gat)=late at htick hL hll hlp
         obtain ⟨q,hq⟩:∃q,orderG late 0 o=q:=⟨_,rfl⟩
         have hord:=order_c late 0 o hL q hq
         have hsh:=shut_late (o:=o) hlp hll
         rw[hq]at hsh
         obtain ⟨q1,q2,q3⟩:=q
         obtain ⟨h1,h2⟩:=hsh
         dsimp only at h1 h2 hord
         subst h1
         have hsame:=sameG_c q1 hL
         have hv0:0<q1.vens.length:=by have:=hL.n;omega
         refine Wk (An @e24 (An @e6 qLS1.1)) (An @hW (An @hs (An @hnew (An @htick (An @hord @hsame))))) ?_
         refine Cc ?_ ?_<;>intro hc<;>(try simp only[Za,ne_eq]at hc)
         ·contradiction
         ·refine Wk (An @e24 (An @e6 qLS1.1)) (An @hW (An @hs (An @hnew (An @htick (An @hord @hsame))))) ?_
          refine Cc ?_ ?_<;>intro hc<;>(try simp only[Za,ne_eq]at hc)
          ·omega
          ·refine Wk (An @e24 (An @e6 qLS1.1)) (An @hW (An @hs (An @hnew (An @htick (An @hord @hsame))))) ?_
           refine Cc ?_ ?_<;>intro hc<;>(try simp only[Za,ne_eq]at hc)
           ·contradiction
           ·refine Wk (An @e24 (An @e6 qLS1.1)) (An @hW (An @hs (An @hnew (An @htick (An @hord @hsame))))) ?_
            refine Cc ?_ ?_<;>intro hc<;>(try simp only[Za,ne_eq]at hc)
            ·refine Wk (An @e24 (An @e6 qLS1.1)) (An @hW (An @hs (An @hnew (An @htick (An @hord @hsame))))) ?_
             first|exact Fn @Tryz.results4 (An @e24 (An @e6 qLS1.1)) trivial|refine Fn @Tryz.results4 (An @e24 (An @e6 qLS1.1)) ?_
            ·have hroom:=(hL.vens _ (Ya hv0)).room
             rw[Zn _ (by omega) (by omega)]at hc
             have hopn:=hc
             have hsl:0<(q1.vens.getD 0 default).sent.length:=by omega
             obtain ⟨xb,hxb⟩:∃b,exB (frX (q1.vens.getD 0 default))=b:=⟨_,rfl⟩
             have hex:=mex_c (frX (q1.vens.getD 0 default)) xb hxb
             refine Wk (An @e24 (An @e6 qLS1.1)) (An @hW (An @hs (An @hnew (An @htick (An @hord (An @hsame @hex)))))) ?_
             refine Cc ?_ ?_<;>intro hc<;>(try simp only[Za,ne_eq]at hc)
             ·refine Wk (An @e24 (An @e6 qLS1.1)) (An @hW (An @hs (An @hnew (An @htick (An @hord (An @hsame @hex)))))) ?_
              first|exact Fn @Tryz.results4 (An @e24 (An @e6 qLS1.1)) trivial|refine Fn @Tryz.results4 (An @e24 (An @e6 qLS1.1)) ?_
             ·have hop:opnP q1:=by
               have hc1:=hc.1
               clear hc
               obtain ⟨⟨⟨⟨⟨a1,a2⟩,a3⟩,a4⟩,a5⟩,a6⟩:=hopn
               exact ⟨hsl,a2,a3,a4,by show (q1.vens.getD 0 default).bk.ords.length+(q1.vens.getD 0 default).sent.length<64;omega,by show (q1.vens.getD 0 default).bk.ids.length<255;omega,hc1⟩
              have hxt:xb=true:=hc.2
              have hs2:=shut_told hL hop (hxb.trans hxt)
              obtain ⟨z,hz⟩:∃z,toldG q1 0 (frX (q1.vens.getD 0 default))=z:=⟨_,rfl⟩
              have htold:=told_c q1 0 (frX (q1.vens.getD 0 default)) hL z hz
              have hz1:gatP z.1:=hz ▸ told_right hL
              have hs2:(z.2.1=2∧z.2.2=0)∨(z.2.1=1∧z.2.2=0∧∀o,(orderG z.1 0 o).2.2≠0∨(orderG z.1 0 o).2.1=whyL z.1.lims o (worstG z.1 o.acc o.sym)):=hz ▸ hs2
              obtain ⟨z1,z2,z3⟩:=z
              dsimp only at htold hz1 hs2
              refine Wk (An @e24 (An @e6 qLS1.1)) (An @hW (An @hs (An @hnew (An @htick (An @hord (An @hsame (An @hex @htold))))))) ?_
              refine Cc ?_ ?_<;>intro hc<;>(try simp only[Za,ne_eq]at hc)
              ·have:z2=2:=by omega
               subst this
               refine Wk (An @e24 (An @e6 qLS1.1)) (An @hW (An @hs (An @hnew (An @htick (An @hord (An @hsame (An @hex @htold))))))) ?_
               first|exact Fn @Tryz.results4 (An @e24 (An @e6 qLS1.1)) trivial|refine Fn @Tryz.results4 (An @e24 (An @e6 qLS1.1)) ?_
              ·have hlast:=(hs2.resolve_left (by omega)).2.2 o
               obtain ⟨y,hy⟩:∃y,orderG z1 0 o=y:=⟨_,rfl⟩
               rw[hy]at hlast
               have hord2:=order_c z1 0 o hz1 y hy
               have hworst:=gworst_c z1 o.acc o.sym hz1
               have hsm:=vens_sm (a:=o.acc) (s:=o.sym) hz1 z1.vens.length
               rw[List.take_length]at hsm
               have hwhy:=lwhy_c z1.lims o (worstG z1 o.acc o.sym) hz1.lims (sm_ok hsm (by decide))
               obtain ⟨y1,y2,y3⟩:=y
               dsimp only at hord2 hlast
               generalize whyL z1.lims o (worstG z1 o.acc o.sym)=wl at hlast hwhy
               generalize worstG z1 o.acc o.sym=ww at hworst hwhy
               refine Wk (An @e24 (An @e6 qLS1.1)) (An @hord2 (An @hworst @hwhy)) ?_
               first|exact Fn @Tryz.results4 (An @e24 (An @e6 qLS1.1)) trivial|refine Fn @Tryz.results4 (An @e24 (An @e6 qLS1.1)) ?_
               rcases hlast with h|h
               ·have:(y3 != 0)=true:=by simpa using h
                rw[this];rfl
               ·have:y2=wl:=h
                rw[this];simp
section
open Go.ChangeShapes Go.WideShapes Go.ChangeAt Go.RowKit
theorem own_none:ownKnob Tryz.prog.godebug=none:=by kernel_rfl
theorem laid_out:laidOutB Tryz.prog=true:=by kernel_rfl
theorem Zj {P:Program} {off off':Nat} {t:TypeId} {fs:List (Nat×TypeId)} {A B:List V→Prop} (ho:off+P.cellsOf t=off') (h:Rd P t A) (hs:RdL P off' fs B):RdL P off ((off,t)::fs) fun vs=>∃a b,A a∧B b∧vs=a++b:=by
 subst ho;exact .cons h hs
theorem rd_i:Rd Tryz.prog 2 fun vs=>∃n:Int,vs=[vI n]:=(rd_int (k:=.i64) (by kernel_rfl)).imp fun _ ⟨n,_,_,h⟩=>⟨n,h⟩
theorem rd_n:Rd Tryz.prog 3 fun vs=>∃n:Int,vs=[vI n]:=(rd_int (k:=.i64) (by kernel_rfl)).imp fun _ ⟨n,_,_,h⟩=>⟨n,h⟩
theorem rd_s:Rd Tryz.prog 9 fun vs=>∃s:ByteArray,vs=[vS s]:=(rd_string (by kernel_rfl)).imp fun _ ⟨s,_,h⟩=>⟨s,h⟩
theorem rd_b:Rd Tryz.prog 4 fun vs=>∃b:Bool,vs=[vB b]:=(rd_bool (by kernel_rfl))
theorem rd_lim:Rd Tryz.prog 48 fun vs=>∃x:NA.Lim,vs=NA.lV x:=by
 refine (rd_structL (l:=[(0,9),(1,9),(2,2),(3,2),(4,2),(5,2)]) (by kernel_rfl) (by kernel_rfl)
  (Zj (off':=1) (by kernel_rfl) rd_s (Zj (off':=2) (by kernel_rfl) rd_s (Zj (off':=3) (by kernel_rfl) rd_i (Zj (off':=4) (by kernel_rfl) rd_i (Zj (off':=5) (by kernel_rfl) rd_i (Zj (off':=6) (by kernel_rfl) rd_i (RdL.nil _)))))))).imp ?_
 rintro vs ⟨_,_,⟨a,rfl⟩,⟨_,_,⟨b,rfl⟩,⟨_,_,⟨c,rfl⟩,⟨_,_,⟨d,rfl⟩,⟨_,_,⟨e,rfl⟩,⟨_,_,⟨f,rfl⟩,rfl,rfl⟩,rfl⟩,rfl⟩,rfl⟩,rfl⟩,rfl⟩
 exact ⟨⟨a,b,c,d,e,f⟩,rfl⟩
theorem arg_lims:ArgRd Tryz.prog 33 fun x=>∃l:List NA.Lim,x=NA.lsD l:=by
 refine (arg_one (ds:=.slice 48) (by kernel_rfl) rfl (rd_slice (e:=48) (by kernel_rfl) rd_lim) (fun vs ⟨n,_,_,h⟩=>by rw[h];rfl)).imp ?_
 rintro x ⟨a,⟨rows,hr,_,h⟩,rfl⟩
 obtain ⟨l,hl,rfl,_⟩:=rows_map (f:=NA.lV) (Q:=fun _=>True) (rows:=rows) fun r h=>let ⟨o,e⟩:=hr r h;⟨o,trivial,e⟩
 simp only[List.cons.injEq,and_true]at h
 exact ⟨l,by rw[h,show Tryz.prog.cellsOf 48=6 by kernel_rfl]⟩
abbrev oVv (o:Ord):List V:=[V.x (.string o.id),V.x (.string o.acc),V.x (.string o.sym),V.x (.bool o.buy),V.x (.int .i64 o.qty),V.x (.int .i64 o.price),V.x (.int .i64 o.done),V.x (.bool o.op)]
theorem rd_ord:Rd Tryz.prog 44 fun vs=>∃o:Ord,vs=oVv o:=by
 refine (rd_structL (l:=[(0,9),(1,9),(2,9),(3,4),(4,2),(5,2),(6,2),(7,4)]) (by kernel_rfl) (by kernel_rfl)
  (Zj (off':=1) (by kernel_rfl) rd_s (Zj (off':=2) (by kernel_rfl) rd_s (Zj (off':=3) (by kernel_rfl) rd_s (Zj (off':=4) (by kernel_rfl) rd_b (Zj (off':=5) (by kernel_rfl) rd_i (Zj (off':=6) (by kernel_rfl) rd_i (Zj (off':=7) (by kernel_rfl) rd_i (Zj (off':=8) (by kernel_rfl) rd_b (RdL.nil _)))))))))).imp ?_
 rintro vs ⟨_,_,⟨a,rfl⟩,⟨_,_,⟨b,rfl⟩,⟨_,_,⟨c,rfl⟩,⟨_,_,⟨d,rfl⟩,⟨_,_,⟨e,rfl⟩,⟨_,_,⟨f,rfl⟩,⟨_,_,⟨g,rfl⟩,⟨_,_,⟨h,rfl⟩,rfl,rfl⟩,rfl⟩,rfl⟩,rfl⟩,rfl⟩,rfl⟩,rfl⟩,rfl⟩
 exact ⟨⟨a,b,c,d,e,f,g,h⟩,rfl⟩
theorem arg_ord:ArgRd Tryz.prog 44 fun x=>∃o:Ord,x=NO.oD o:=by
 refine (arg_struct (l:=[(0,9),(1,9),(2,9),(3,4),(4,2),(5,2),(6,2),(7,4)]) (by kernel_rfl) rd_ord).imp ?_
 rintro x ⟨vs,⟨w,rfl⟩,rfl⟩
 exact ⟨w,rfl⟩
theorem rd_exe:Rd Tryz.prog 46 fun vs=>∃x:Exe,vs=[vS x.id,vS x.ref,vS x.ord,vS x.acc,vS x.sym,vI x.kind,vB x.buy,vI x.qty,vI x.price,vI x.time]:=by
 refine (rd_structL (l:=[(0,9),(1,9),(2,9),(3,9),(4,9),(5,3),(6,4),(7,2),(8,2),(9,2)]) (by kernel_rfl) (by kernel_rfl)
  (Zj (off':=1) (by kernel_rfl) rd_s (Zj (off':=2) (by kernel_rfl) rd_s (Zj (off':=3) (by kernel_rfl) rd_s (Zj (off':=4) (by kernel_rfl) rd_s (Zj (off':=5) (by kernel_rfl) rd_s (Zj (off':=6) (by kernel_rfl) rd_n (Zj (off':=7) (by kernel_rfl) rd_b (Zj (off':=8) (by kernel_rfl) rd_i (Zj (off':=9) (by kernel_rfl) rd_i (Zj (off':=10) (by kernel_rfl) rd_i (RdL.nil _)))))))))))).imp ?_
 rintro vs ⟨_,_,⟨a,rfl⟩,⟨_,_,⟨b,rfl⟩,⟨_,_,⟨c,rfl⟩,⟨_,_,⟨d,rfl⟩,⟨_,_,⟨e,rfl⟩,⟨_,_,⟨f,rfl⟩,⟨_,_,⟨g,rfl⟩,⟨_,_,⟨h,rfl⟩,⟨_,_,⟨i,rfl⟩,⟨_,_,⟨j,rfl⟩,rfl,rfl⟩,rfl⟩,rfl⟩,rfl⟩,rfl⟩,rfl⟩,rfl⟩,rfl⟩,rfl⟩,rfl⟩
 exact ⟨⟨a,b,c,d,e,f,g,h,i,j⟩,rfl⟩
theorem rd_ask:Rd Tryz.prog 50 fun vs=>∃a:Ask,vs=aV a:=by
 refine (rd_structL (l:=[(0,3),(1,3),(2,44),(10,9),(11,46),(21,2),(22,4),(23,48)]) (by kernel_rfl) (by kernel_rfl)
  (Zj (off':=1) (by kernel_rfl) rd_n (Zj (off':=2) (by kernel_rfl) rd_n (Zj (off':=10) (by kernel_rfl) rd_ord (Zj (off':=11) (by kernel_rfl) rd_s (Zj (off':=21) (by kernel_rfl) rd_exe (Zj (off':=22) (by kernel_rfl) rd_i (Zj (off':=23) (by kernel_rfl) rd_b (Zj (off':=29) (by kernel_rfl) rd_lim (RdL.nil _)))))))))).imp ?_
 rintro vs ⟨_,_,⟨a,rfl⟩,⟨_,_,⟨b,rfl⟩,⟨_,_,⟨c,rfl⟩,⟨_,_,⟨d,rfl⟩,⟨_,_,⟨e,rfl⟩,⟨_,_,⟨f,rfl⟩,⟨_,_,⟨g,rfl⟩,⟨_,_,⟨h,rfl⟩,rfl,rfl⟩,rfl⟩,rfl⟩,rfl⟩,rfl⟩,rfl⟩,rfl⟩,rfl⟩
 exact ⟨⟨a,b,c,d,e,f,g,h⟩,rfl⟩
theorem arg_asks:ArgRd Tryz.prog 22 fun x=>∃l:List Ask,x=asksD l:=by
 refine (arg_one (ds:=.slice 50) (by kernel_rfl) rfl (rd_slice (e:=50) (by kernel_rfl) rd_ask) (fun vs ⟨n,_,_,h⟩=>by rw[h];rfl)).imp ?_
 rintro x ⟨a,⟨rows,hr,_,h⟩,rfl⟩
 obtain ⟨l,hl,rfl,_⟩:=rows_map (f:=aV) (Q:=fun _=>True) (rows:=rows) fun r h=>let ⟨o,e⟩:=hr r h;⟨o,trivial,e⟩
 simp only[List.cons.injEq,and_true]at h
 exact ⟨l,by rw[h,show Tryz.prog.cellsOf 50=29 by kernel_rfl]⟩
end
end Eng
end Go.Proofs.YtgenjpingdkmgaaGreatDoor
namespace Go.Proofs.YtgenjpingdkmgaaGreatDoor
def layJoin_ren:Go.Shelf.Ren:=⟨fun|156=>240|165=>273|166=>274|169=>275|240=>303|241=>304|276=>331|277=>332|n=>n,fun|0=>0|2=>2|3=>3|4=>4|5=>5|9=>9|20=>20|31=>56|37=>24|70=>368|72=>370|75=>365|76=>371|127=>392|164=>414|80=>373|n=>n,fun|n=>n⟩
theorem layJoin:Lays.n156 Tryz.prog layJoin_ren where
 mixed:=by kernel_rfl
 f156:=Tryz.func240.trans (congrArg some (by kernel_rfl))
 f165:=Tryz.func273.trans (congrArg some (by kernel_rfl))
 f166:=Tryz.func274.trans (congrArg some (by kernel_rfl))
 f169:=Tryz.func275.trans (congrArg some (by kernel_rfl))
 f240:=Tryz.func303.trans (congrArg some (by kernel_rfl))
 f241:=Tryz.func304.trans (congrArg some (by kernel_rfl))
 f276:=Tryz.func331.trans (congrArg some (by kernel_rfl))
 f277:=Tryz.func332.trans (congrArg some (by kernel_rfl))
 t0:=Tryz.underlying0
 a0:=Tryz.isAgg0
 z0:=Tryz.sizeOf0
 v0:=Tryz.zeroValue0
 t3:=Tryz.underlying3
 a3:=Tryz.isAgg3
 z3:=Tryz.sizeOf3
 v3:=Tryz.zeroValue3
 t4:=Tryz.underlying4
 a4:=Tryz.isAgg4
 z4:=Tryz.sizeOf4
 v4:=Tryz.zeroValue4
 t9:=Tryz.underlying9
 a9:=Tryz.isAgg9
 z9:=Tryz.sizeOf9
 v9:=Tryz.zeroValue9
 t20:=Tryz.underlying20
 a20:=Tryz.isAgg20
 z20:=Tryz.sizeOf20
 v20:=Tryz.zeroValue20
 t31:=Tryz.underlying56
 a31:=Tryz.isAgg56
 z31:=Tryz.sizeOf56
 v31:=Tryz.zeroValue56
 t37:=Tryz.underlying24
 a37:=Tryz.isAgg24
 z37:=Tryz.sizeOf24
 v37:=Tryz.zeroValue24
 t70:=Tryz.underlying368
 a70:=Tryz.isAgg368
 z70:=Tryz.sizeOf368
 v70:=Tryz.zeroValue368
 t72:=Tryz.underlying370
 a72:=Tryz.isAgg370
 z72:=Tryz.sizeOf370
 v72:=Tryz.zeroValue370
 t75:=Tryz.underlying365
 a75:=Tryz.isAgg365
 z75:=Tryz.sizeOf365
 v75:=Tryz.zeroValue365
 t76:=Tryz.underlying371
 a76:=Tryz.isAgg371
 z76:=Tryz.sizeOf371
 v76:=Tryz.zeroValue371
 t127:=Tryz.underlying392
 a127:=Tryz.isAgg392
 z127:=Tryz.sizeOf392
 v127:=Tryz.zeroValue392
 t164:=Tryz.underlying414
 a164:=Tryz.isAgg414
 z164:=Tryz.sizeOf414
 v164:=Tryz.zeroValue414
theorem extraJoin:Builder.Extra Tryz.prog layJoin_ren where
 sizeBuilder:=by kernel_rfl
 liesBuilder:=by kernel_rfl
 t5:=Tryz.underlying5
 a5:=Tryz.isAgg5
 z5:=Tryz.sizeOf5
 v5:=Tryz.zeroValue5
 infoByte:=by kernel_rfl
 cellsByte:=by kernel_rfl
 sizeByte:=by kernel_rfl
 neB5:=by decide
namespace Eng
open Go.RowKit
theorem rep_strs {w:World} {ow:Nat→Prop} {l:List ByteArray} {sl:Value} (hsl:RepV w ow (ssV l) sl):(l=[]∧∃a c,sl=.slice a 0 c) ∨
 ∃b off c,sl=.slice (some ⟨b,off,none⟩) l.length c∧b<w.heap.size∧l.length≤c∧∀(j:Nat) x,l[j]?=some x→w.cell? ⟨b,off+j,none⟩=some (.string x):=by
 obtain ⟨a,cap,rfl,hcp,hz,hcl⟩:∃(a:Option Addr) (cap:Nat),sl=.slice a l.length cap∧l.length≤cap∧(a=none→l=[])∧(∀ad,a=some ad→∀j (h:j<l.length),w.cell? (ad.add j)=some (.string (l.getD j default))):=by
  cases hsl with
  | s _ _ a n c g hn hk hz hcap hc hr =>
   have hn:n=l.length:=by simpa using hn
   subst hn
   refine ⟨a,c,rfl,hcap,fun h=>by simpa using hz h,fun ad had j hj=>?_⟩
   have e1:(l.map fun s=>[V.x (.string s)])[j]?=some [V.x (.string (l.getD j default))]:=by simp[hj]
   have h1:=(hc ad had j _ 0 _ e1 rfl).1
   have h2:=hr j _ 0 _ e1 rfl
   have e2:g j 0=.string (l.getD j default):=by
    generalize g j 0=u at h2
    cases h2
    rfl
   rw[←e2]
   simpa using h1
 rcases Nat.eq_zero_or_pos l.length with h0|h0
 ·have:l=[]:=List.length_eq_zero_iff.1 h0
  subst this
  exact .inl ⟨rfl,_,_,rfl⟩
 ·right
  cases a with
  | none=>have:=hz rfl;subst this;simp at h0
  | some ad =>
   obtain ⟨b,off,sp⟩:=ad
   have h00:=hcl _ rfl 0 h0
   have hsp:sp=none:=by
    unfold World.cell? Addr.add at h00
    simp only[if_true]at h00
    split at h00
    ·cases sp with
     | none=>rfl
     | some _=>simp at h00
    ·cases h00
   subst hsp
   refine ⟨b,off,cap,rfl,?_,hcp,fun j x hj=>?_⟩
   ·have:=World.block_lt_of_cell? _ _ h00
    rwa [Yg]at this
   ·obtain ⟨hjl,hjx⟩:=List.getElem?_eq_some_iff.1 hj
    have:=hcl _ rfl j hjl
    have e:(⟨b,off,none⟩:Addr).add j=⟨b,off+j,none⟩:=by
     unfold Addr.add
     split
     ·rename_i h;subst h;rfl
     ·rfl
    rw[e]at this
    rw[this,List.getD_eq_getElem?_getD,hj];rfl
def joinS (l:List ByteArray) (sep:ByteArray):ByteArray:=⟨(Lib.join (l.map (·.data.toList)) sep.data.toList).toArray⟩
theorem join_c (l:List ByteArray) (sep:ByteArray) (hl:l.length≤1000) (hj:(joinS l sep).size≤1000000):ACall Tryz.prog 240 [] [ssD l,StD sep] (StD (joinS l sep)) []:=by
 refine NU.acall_raw ⟨_,Tryz.func240,by kernel_rfl,by kernel_rfl⟩ fun w vs ow ρ hG ha=>?_
 match vs,ha with
 | [a,b],⟨h2,h3,_⟩ =>
  obtain ⟨rfl,_⟩:=rep_x (v:=.string sep) h3
  rcases rep_strs (show RepV w _ (ssV l) a from h2) with ⟨rfl,ad,c,rfl⟩|⟨b,off,c,rfl,hb,hc,hx⟩
  ·refine (Any.strings_Join_none layJoin extraJoin ad c sep w).mono ?_
   rintro e w' ⟨rfl,rfl⟩
   exact ⟨_,rfl,Below.refl _ _,fun _ _=>RepV.x _ rfl⟩
  ·have hj2:(Lib.join (l.map (·.data.toList)) sep.data.toList).length≤140737488355328:=by
    have:(joinS l sep).size=(Lib.join (l.map (·.data.toList)) sep.data.toList).length:=rfl
    omega
   refine (Any.strings_Join layJoin extraJoin b off c l sep w hx hb (by omega) hc hj2).mono ?_
   rintro e w' ⟨rfl,hw⟩
   exact ⟨_,rfl,hw,fun _ _=>RepV.x _ rfl⟩
end Eng
end Go.Proofs.YtgenjpingdkmgaaGreatDoor
namespace Go.Proofs.YtgenjpingdkmgaaGreatDoor
def layIt_ren:Go.Shelf.Ren:=⟨fun|173=>202|246=>248|283=>283|284=>284|285=>285|286=>286|129=>172|317=>310|318=>311|319=>312|320=>313|337=>334|338=>335|171=>242|243=>279|n=>n,fun|2=>2|3=>3|9=>9|4=>4|171=>380|0=>0|53=>209|37=>24|5=>5|173=>382|212=>396|51=>246|20=>20|213=>397|46=>192|232=>426|233=>427|n=>n,fun|17=>3|18=>8|19=>9|n=>n⟩
theorem layIt:Lays.n171 Tryz.prog layIt_ren where
 mixed:=by kernel_rfl
 f129:=Tryz.func172.trans (congrArg some (by kernel_rfl))
 f171:=Tryz.func242.trans (congrArg some (by kernel_rfl))
 f243:=Tryz.func279.trans (congrArg some (by kernel_rfl))
 f246:=Tryz.func248.trans (congrArg some (by kernel_rfl))
 f283:=Tryz.func283.trans (congrArg some (by kernel_rfl))
 f284:=Tryz.func284.trans (congrArg some (by kernel_rfl))
 f285:=Tryz.func285.trans (congrArg some (by kernel_rfl))
 f286:=Tryz.func286.trans (congrArg some (by kernel_rfl))
 f317:=Tryz.func310.trans (congrArg some (by kernel_rfl))
 f318:=Tryz.func311.trans (congrArg some (by kernel_rfl))
 f319:=Tryz.func312.trans (congrArg some (by kernel_rfl))
 f320:=Tryz.func313.trans (congrArg some (by kernel_rfl))
 f337:=Tryz.func334.trans (congrArg some (by kernel_rfl))
 f338:=Tryz.func335.trans (congrArg some (by kernel_rfl))
 t0:=Tryz.underlying0
 a0:=Tryz.isAgg0
 z0:=Tryz.sizeOf0
 v0:=Tryz.zeroValue0
 t2:=Tryz.underlying2
 a2:=Tryz.isAgg2
 z2:=Tryz.sizeOf2
 v2:=Tryz.zeroValue2
 t3:=Tryz.underlying3
 a3:=Tryz.isAgg3
 z3:=Tryz.sizeOf3
 v3:=Tryz.zeroValue3
 t4:=Tryz.underlying4
 a4:=Tryz.isAgg4
 z4:=Tryz.sizeOf4
 v4:=Tryz.zeroValue4
 t5:=Tryz.underlying5
 a5:=Tryz.isAgg5
 z5:=Tryz.sizeOf5
 v5:=Tryz.zeroValue5
 t9:=Tryz.underlying9
 a9:=Tryz.isAgg9
 z9:=Tryz.sizeOf9
 v9:=Tryz.zeroValue9
 t20:=Tryz.underlying20
 a20:=Tryz.isAgg20
 z20:=Tryz.sizeOf20
 v20:=Tryz.zeroValue20
 t37:=Tryz.underlying24
 a37:=Tryz.isAgg24
 z37:=Tryz.sizeOf24
 v37:=Tryz.zeroValue24
 t46:=Tryz.underlying192
 a46:=Tryz.isAgg192
 z46:=Tryz.sizeOf192
 v46:=Tryz.zeroValue192
 t51:=Tryz.underlying246
 a51:=Tryz.isAgg246
 z51:=Tryz.sizeOf246
 v51:=Tryz.zeroValue246
 t53:=Tryz.underlying209
 a53:=Tryz.isAgg209
 z53:=Tryz.sizeOf209
 v53:=Tryz.zeroValue209
 t171:=Tryz.underlying380
 a171:=Tryz.isAgg380
 z171:=Tryz.sizeOf380
 v171:=Tryz.zeroValue380
 t173:=Tryz.underlying382
 a173:=Tryz.isAgg382
 z173:=Tryz.sizeOf382
 v173:=Tryz.zeroValue382
 t212:=Tryz.underlying396
 a212:=Tryz.isAgg396
 z212:=Tryz.sizeOf396
 v212:=Tryz.zeroValue396
 t213:=Tryz.underlying397
 a213:=Tryz.isAgg397
 z213:=Tryz.sizeOf397
 t232:=Tryz.underlying426
 a232:=Tryz.isAgg426
 z232:=Tryz.sizeOf426
 v232:=Tryz.zeroValue426
 t233:=Tryz.underlying427
 a233:=Tryz.isAgg427
 z233:=Tryz.sizeOf427
 v233:=Tryz.zeroValue427
 g17:=by kernel_rfl
 g18:=by kernel_rfl
 g19:=by kernel_rfl
namespace Eng
open Go.RowKit
theorem itoa_c (i:Nat) (hi:i<100):ACall Tryz.prog 242 [] [I i] (StD ⟨(Lib.decDigits i).toArray⟩) []:=by
 refine NU.acall_raw ⟨_,Tryz.func242,by kernel_rfl,by kernel_rfl⟩ fun w vs ow ρ hG ha=>?_
 match vs,ha with
 | [a],⟨h2,_⟩ =>
  obtain ⟨rfl,_⟩:=rep_x (v:=.int .i64 i) h2
  refine (Any.strconv_Itoa_small layIt i hi w).mono ?_
  rintro e w2 ⟨rfl,rfl⟩
  exact ⟨_,rfl,Below.refl _ _,fun _ _=>RepV.x _ rfl⟩
end Eng
end Go.Proofs.YtgenjpingdkmgaaGreatDoor
namespace Go.Proofs.YtgenjpingdkmgaaGreatDoor
namespace Eng
section
open NU
theorem ctS_x (s:ByteArray) (c:UInt8):XCall Tryz.prog 232 [] [StD s,u8D c] (I (s.data.toList.count c)) []:=by
 intro own0 w ρ vs hm ha
 match vs,ha with
 | [a,b],⟨h1,h2,_⟩ =>
  obtain ⟨rfl,_⟩:=rep_x h1
  obtain ⟨rfl,_⟩:=rep_x h2
  refine ⟨.int .i64 (s.data.toList.count c),ρ,?_,Sub.refl _,rep_x_mk rfl,hm⟩
  show (callFunc 232 #[.string s,.int .u8 (c.toNat:Int)]).run Tryz.prog w=_
  rw[run_callFunc_extern Tryz.func232 (by kernel_rfl) (by kernel_rfl) (by kernel_rfl) (e:=Extern.BytealgCount.count) (by kernel_rfl),Lib.run_countString,u8_back]
  rfl
theorem ixS_x (s:ByteArray) (c:UInt8):XCall Tryz.prog 282 [] [StD s,u8D c] (I (Lib.indexByte s.data.toList c)) []:=by
 intro own0 w ρ vs hm ha
 match vs,ha with
 | [a,b],⟨h1,h2,_⟩ =>
  obtain ⟨rfl,_⟩:=rep_x h1
  obtain ⟨rfl,_⟩:=rep_x h2
  refine ⟨.int .i64 (Lib.indexByte s.data.toList c),ρ,?_,Sub.refl _,rep_x_mk rfl,hm⟩
  show (callFunc 282 #[.string s,.int .u8 (c.toNat:Int)]).run Tryz.prog w=_
  rw[run_callFunc_extern Tryz.func282 (by kernel_rfl) (by kernel_rfl) (by kernel_rfl) (e:=Extern.BytealgIndexByte.indexByte) (by kernel_rfl),Lib.run_indexByteString,u8_back]
  rfl
theorem ixS_c (s:ByteArray) (c:UInt8):ACall Tryz.prog 247 [] [StD s,u8D c] (I (Lib.indexByte s.data.toList c)) []:=by
 have hix:=ixS_x s c
 refine Ac Tryz.func247 ?_
 refine Wk trivial @hix ?_
 first|exact Fn @Tryz.results247 trivial trivial|refine Fn @Tryz.results247 trivial ?_
def oneS (c:UInt8):ByteArray:=str [c]
theorem countS_c (s:ByteArray) (c:UInt8):ACall Tryz.prog 184 [] [StD s,StD (oneS c)] (I (s.data.toList.count c)) []:=by
 have hcx:=ctS_x s c
 have hz:((oneS c).size:Int)=1:=rfl
 refine Ac Tryz.func184 ?_
 refine Wk trivial @hcx ?_
 refine Cc ?_ ?_<;>intro hc<;>(try simp only[Za,ne_eq]at hc)
 ·omega
 ·refine Wk trivial @hcx ?_
  refine Cc ?_ ?_<;>intro hc<;>(try simp only[Za,ne_eq]at hc)
  ·refine Wk trivial @hcx ?_
   first|exact Fn @Tryz.results184 trivial trivial|refine Fn @Tryz.results184 trivial ?_
  ·omega
theorem indexL_c (s:ByteArray) (c:UInt8):ACall Tryz.prog 268 [] [StD s,StD (oneS c)] (I (Lib.indexByte s.data.toList c)) []:=by
 have hi1:=ixS_c s c
 have hz:((oneS c).size:Int)=1:=rfl
 refine Ac Tryz.func268 ?_
 refine Wk trivial @hi1 ?_
 refine Cc ?_ ?_<;>intro hc<;>(try simp only[Za,ne_eq]at hc)
 ·have e:Lib.indexByte s.data.toList c=0:=by
   rcases hc with hc|hc
   ·omega
   ·have h:s.data.toList=[c]:=hc.symm
    rw[h];simp[Lib.indexByte]
  rw[e]
  refine Wk trivial @hi1 ?_
  first|exact Fn @Tryz.results268 trivial trivial|refine Fn @Tryz.results268 trivial ?_
 ·refine Wk trivial @hi1 ?_
  refine Cc ?_ ?_<;>intro hc<;>(try simp only[Za,ne_eq]at hc)
  ·refine Wk trivial @hi1 ?_
   first|exact Fn @Tryz.results268 trivial trivial|refine Fn @Tryz.results268 trivial ?_
  ·omega
theorem indexT_c (s:ByteArray) (c:UInt8):ACall Tryz.prog 233 [] [StD s,StD (oneS c)] (I (Lib.indexByte s.data.toList c)) []:=by
 have hi1:=indexL_c s c
 refine Ac Tryz.func233 ?_
 refine Wk trivial @hi1 ?_
 first|exact Fn @Tryz.results233 trivial trivial|refine Fn @Tryz.results233 trivial ?_
def splL (c:UInt8):List UInt8→List (List UInt8)
 | []=>[[]]
 | b::l=>if b=c then []::splL c l else match splL c l with
  | []=>[[b]]
  | x::r=>(b::x)::r
theorem splL_ne (c:UInt8) (l:List UInt8):splL c l≠[]:=by
 cases l with
 | nil=>simp[splL]
 | cons b l=>unfold splL;split
             ·simp
             ·split<;>simp
theorem splL_none {c:UInt8}:∀ {l:List UInt8},l.count c=0→splL c l=[l]
 | [],_=>rfl
 | b::l,h=>by
  have hb:b≠c:=fun e=>by subst e;simp at h
  rw[List.count_cons_of_ne hb]at h
  unfold splL
  rw[if_neg hb,splL_none h]
theorem splL_hit (c:UInt8) (l:List UInt8):splL c (c::l)=[]::splL c l:=by simp[splL]
theorem splL_miss {c b:UInt8} {l x:List UInt8} {r:List (List UInt8)} (h:b≠c) (hs:splL c l=x::r):splL c (b::l)=(b::x)::r:=by simp[splL,h,hs]
theorem splL_at {c:UInt8}:∀ {l:List UInt8} {q:Nat},q<l.length→(l.take q).count c=0→l.getD q 0=c→splL c l=l.take q::splL c (l.drop (q+1))
 | [],q,h,_,_=>by simp at h
 | b::l,0,_,_,h=>by
  have:b=c:=h
  subst this
  exact splL_hit b l
 | b::l,q+1,h1,h2,h3=>by
  have hb:b≠c:=fun e=>by subst e;simp[List.take_succ_cons]at h2
  rw[List.take_succ_cons,List.count_cons_of_ne hb]at h2
  have ih:=splL_at (c:=c) (l:=l) (q:=q) (by simpa using h1) h2 (by simpa using h3)
  exact splL_miss hb ih
theorem splL_len (c:UInt8):∀l:List UInt8,(splL c l).length=l.count c+1
 | []=>rfl
 | b::l=>by
  have ih:=splL_len c l
  unfold splL
  split
  ·rename_i h;subst h;simp[ih]
  ·rename_i h
   rw[List.count_cons_of_ne h]
   have hne:=splL_ne c l
   cases hs:splL c l with
   | nil=>exact absurd hs hne
   | cons x r=>rw[hs]at ih;simpa using ih
theorem count_at {c:UInt8} {l:List UInt8} {q:Nat} (h1:q<l.length) (h2:(l.take q).count c=0) (h3:l.getD q 0=c):(l.drop (q+1)).count c+1=l.count c:=by
 have:=splL_at h1 h2 h3
 have a:=splL_len c l
 rw[this,List.length_cons,splL_len]at a
 omega
abbrev rowS (ps:List (List UInt8)) (n:Nat):List (List V):=(ps.map fun p=>[vS (str p)])++List.replicate (n - ps.length) [vS ⟨#[]⟩]
theorem rowS_set (ps:List (List UInt8)) (n:Nat) (p:List UInt8) (h:ps.length<n):(rowS ps n).set ps.length [vS (str p)]=rowS (ps++[p]) n:=by
 unfold rowS
 obtain ⟨m,hm⟩:∃m,n - ps.length=m+1:=⟨n - ps.length - 1,by omega⟩
 rw[hm,List.replicate_succ,List.set_append_right _ _ (by simp),List.length_map,Nat.sub_self,List.set_cons_zero,List.map_append,List.length_append,List.length_singleton,show n - (ps.length+1)=m by omega,List.append_assoc]
 rfl
theorem rowS_put (ps:List (List UInt8)) (n:Nat) (p:List UInt8) (h:ps.length<n):(rowS ps n).set ps.length (vS (str p)::List.drop 1 ((rowS ps n).getD ps.length []))=rowS (ps++[p]) n:=by
 have e:List.drop 1 ((rowS ps n).getD ps.length [])=[]:=by
  obtain ⟨m,hm⟩:∃m,n - ps.length=m+1:=⟨n - ps.length - 1,by omega⟩
  unfold rowS
  rw[hm,List.replicate_succ,List.getD_eq_getElem?_getD,List.getElem?_append_right (by simp)]
  simp
 rw[e];exact rowS_set ps n p h
theorem rowS_len (ps:List (List UInt8)) (n:Nat) (h:ps.length≤n):(rowS ps n).length=n:=by simp[rowS];omega
def qST1:=PLift.up (An @NU.str_ext @rowS_len)
theorem split_c (l:List UInt8) (c:UInt8) (hl:l.length≤100000):ACall Tryz.prog 185 [] [StD (str l),StD (oneS c),I 0,I (-1)] (ssD ((splL c l).map str)) []:=by
 have hcnt:=countS_c (str l) c
 obtain ⟨m,hm⟩:∃m,l.count c=m:=⟨_,rfl⟩
 have hml:m≤l.length:=by rw[←hm];exact List.count_le_length
 have e0:(str l).data.toList.count c=m:=hm
 rw[e0]at hcnt
 have hz:((oneS c).size:Int)=1:=rfl
 have hzl:(((str l).size:Nat):Int)=l.length:=rfl
 have hmin:(if ((str l).size:Int)+1<(m:Int)+1 then ((str l).size:Int)+1 else (m:Int)+1)=(m:Int)+1:=if_neg (by omega)
 have hnat:((m:Int)+1).toNat=m+1:=by omega
 refine Ac Tryz.func185 ?_
 refine Wk (An @hnat (An @hmin qST1.1)) @hcnt ?_
 refine Cc ?_ ?_<;>intro hc<;>(try simp only[Za,ne_eq]at hc)
 ·contradiction
 ·refine Wk (An @hnat (An @hmin qST1.1)) @hcnt ?_
  refine Cc ?_ ?_<;>intro hc<;>(try simp only[Za,ne_eq]at hc)
  ·exact absurd hc (by simp[oneS])
  ·refine Wk (An @hnat (An @hmin qST1.1)) @hcnt ?_
   refine Cc ?_ ?_<;>intro hc<;>(try simp only[Za,ne_eq]at hc)
   ·refine Wk (An @hnat (An @hmin qST1.1)) @hcnt ?_
    refine AWp.loop (fun s:List (List UInt8)×List UInt8=>mkSt [(0,StD (str s.2)),(1,StD (oneS c)),(2,I 0),(3,I m),(9,.e (.c (.o 0 (m+1)))),(10,I s.1.length)] [(0,.row 1 (rowS s.1 (m+1)))] 1)
     (fun s=>s.1.length+s.2.count c=m∧s.1++splL c s.2=splL c l∧s.2.length≤l.length) (fun s=>m - s.1.length) ([],l) ⟨by simpa using hm,rfl,Nat.le_refl _⟩ (by refine Le.of (τ:=[(0,1216)]) (ν:=[]) (by kernel_rfl) ?_ ?_<;>((refine Lv (An @hnat (An @hmin qST1.1)) fun eE=>?_;first|exact Lw (@Box.out _ eE) trivial|refine Lw (@Box.out _ eE) ?_);try (first|omega|rfl|exact ⟨by omega,rfl⟩))) fun s hs=>?_
    obtain ⟨ps,r⟩:=s
    obtain ⟨h1,h2,h3⟩:=hs
    dsimp only at h1 h2 h3 ⊢
    refine Wk (An @hnat (An @hmin qST1.1)) @hcnt ?_
    refine Cc ?_ ?_<;>intro hc<;>(try simp only[Za,ne_eq]at hc)
    ·obtain ⟨q,hq1,hq2,hq3,hq4⟩:=index_spec c r (by omega)
     have hidx:=indexT_c (str r) c
     have e2:Lib.indexByte (str r).data.toList c=q:=hq1
     rw[e2]at hidx
     have hzr:(((str r).size:Nat):Int)=r.length:=rfl
     refine Wk (An @hnat (An @hmin qST1.1)) (An @hcnt @hidx) ?_
     refine Cc ?_ ?_<;>intro hc<;>(try simp only[Za,ne_eq]at hc)
     ·omega
     ·refine Wk (An @hnat (An @hmin qST1.1)) (An @hcnt @hidx) ?_
      have hp1:(((q:Int)+0).toNat - 0)=q:=by omega
      have hp2:((q:Int)+((oneS c).size:Int)).toNat=q+1:=by omega
      have hp3:List.take ((str r).size - (q+1)) (List.drop (q+1) r)=r.drop (q+1):=List.take_of_length_le (by rw[List.length_drop];exact Nat.le_refl _)
      simp only[hp1,hp2,hp3,rowS_put ps (m+1) _ (by omega)]
      refine Zb (ps++[r.take q],r.drop (q+1)) ⟨?_,?_,?_⟩ ?_ (by refine Le.of (τ:=[]) (ν:=[]) (by kernel_rfl) ?_ ?_<;>((refine Lv (An @hnat (An @hmin qST1.1)) fun eE=>?_;first|exact Lw (@Box.out _ eE) trivial|refine Lw (@Box.out _ eE) ?_);try (first|omega|rfl|(simp;done)|(simp;omega))))
      ·have:=count_at hq2 hq3 hq4
       simp only[List.length_append,List.length_singleton];omega
      ·rw[←h2,splL_at hq2 hq3 hq4];simp
      ·simp only[List.length_drop];omega
      ·simp only[List.length_append,List.length_singleton];omega
    ·refine Wk (An @hnat (An @hmin qST1.1)) @hcnt ?_
     simp only[rowS_put ps (m+1) _ (show ps.length<m+1 by omega)]
     have e3:ps++[r]=splL c l:=by rw[←h2,splL_none (by omega)]
     have e4:rowS (ps++[r]) (m+1)=(splL c l).map fun p=>[vS (str p)]:=by
      unfold rowS
      rw[e3,splL_len,hm];simp
     rw[e4]
     first|exact Fn @Tryz.results185 (An @hnat (An @hmin qST1.1)) trivial|refine Fn @Tryz.results185 (An @hnat (An @hmin qST1.1)) ?_
     have hsl:(splL c l).length=m+1:=by rw[splL_len,hm]
     exact ⟨by rw[List.take_of_length_le (by rw[List.length_map,hsl];omega)];exact List.map_map,by omega⟩
   ·contradiction
theorem split2_c (l:List UInt8) (c:UInt8) (hl:l.length≤100000):ACall Tryz.prog 133 [] [StD (str l),StD (oneS c)] (ssD ((splL c l).map str)) []:=by
 have hsp:=split_c l c hl
 refine Ac Tryz.func133 ?_
 refine Wk qST1.1 @hsp ?_
 first|exact Fn @Tryz.results133 qST1.1 trivial|refine Fn @Tryz.results133 qST1.1 ?_
end
section
open NU
def asksL:List (List UInt8):=[[],[111,114,100,101,114],[99,104,97,110,103,101],[116,111,108,100],[116,105,99,107],[107,105,108,108],[103,97,112],[114,101,115,101,116],[108,105,109,105,116]]
def execsL:List (List UInt8):=[[],[110,101,119],[102,105,108,108],[99,97,110,99,101,108],[114,101,112,108,97,99,101],[114,101,106,101,99,116],[101,120,112,105,114,101],[98,117,115,116],[99,111,114,114,101,99,116]]
theorem gT1:List.lookup 1 globT=some (asksL.map fun s=>Value.string (str s)):=by rfl
theorem gT2:List.lookup 2 globT=some (execsL.map fun s=>Value.string (str s)):=by rfl
def qTP1:=PLift.up (An @gT1 @gT2)
theorem choose_c (b:Bool) (x y:ByteArray):ACall Tryz.prog 333 [] [B b,StD x,StD y] (StD (if b then x else y)) []:=by
 refine Ac Tryz.func333 ?_
 cases b
 ·refine Wk qTP1.1 trivial ?_
  refine Cc ?_ ?_<;>intro hc<;>(try simp only[Za,ne_eq]at hc)
  ·contradiction
  ·refine Wk qTP1.1 trivial ?_
   first|exact Fn @Tryz.results333 qTP1.1 trivial|refine Fn @Tryz.results333 qTP1.1 ?_
 ·refine Wk qTP1.1 trivial ?_
  refine Cc ?_ ?_<;>intro hc<;>(try simp only[Za,ne_eq]at hc)
  ·refine Wk qTP1.1 trivial ?_
   first|exact Fn @Tryz.results333 qTP1.1 trivial|refine Fn @Tryz.results333 qTP1.1 ?_
  ·contradiction
abbrev tabC (t:Nat→ByteArray):List C:=[.v (vS (t 0)),.v (vS (t 1)),.v (vS (t 2)),.v (vS (t 3)),.v (vS (t 4)),.v (vS (t 5)),.v (vS (t 6)),.v (vS (t 7)),.v (vS (t 8))]
def placeL (t:Nat→ByteArray) (s:ByteArray):Nat→Nat→Int
 | 0,_=>0
 | k+1,i=>if (t i).data.toList=s.data.toList then i else placeL t s k (i+1)
theorem Ys (t:Nat→ByteArray) (s:ByteArray) (k i:Nat) (h:(t i).data.toList=s.data.toList):placeL t s (k+1) i=i:=if_pos h
theorem Yt (t:Nat→ByteArray) (s:ByteArray) (k i:Nat) (h:¬(t i).data.toList=s.data.toList):placeL t s (k+1) i=placeL t s k (i+1):=if_neg h
theorem place_c (t:Nat→ByteArray) (s:ByteArray) (r:Int) (hr:placeL t s 8 1=r):ACall Tryz.prog 276 [] [.e (.a (tabC t)),StD s] (I r) []:=by
 refine Ac Tryz.func276 ?_
 refine Wk qTP1.1 trivial ?_
 refine AWp.loop (fun i:Nat=>mkSt [(1,StD s),(2,.p 0 0),(5,I i)] [(0,.loc (tabC t))] 1) (fun i=>1≤i∧i≤9∧placeL t s (9 - i) i=r) (fun i=>9 - i) 1 ⟨Nat.le_refl _,by omega,hr⟩ (by refine Le.of (τ:=[]) (ν:=[]) (by kernel_rfl) ?_ ?_<;>((first|exact Lw qTP1.1 trivial|refine Lw qTP1.1 ?_);try (first|omega|rfl|exact ⟨rfl,rfl⟩))) fun i hi=>?_
 obtain ⟨h1,h9,hp⟩:=hi
 have hi:i=1∨i=2∨i=3∨i=4∨i=5∨i=6∨i=7∨i=8∨i=9:=by omega
 rcases hi with rfl|rfl|rfl|rfl|rfl|rfl|rfl|rfl|rfl
 ·refine Wk qTP1.1 trivial ?_
  refine Cc ?_ ?_<;>intro hc<;>(try simp only[Za,ne_eq]at hc)
  ·refine Wk qTP1.1 trivial ?_
   refine Cc ?_ ?_<;>intro hc<;>(try simp only[Za,ne_eq]at hc)
   ·have e:r=1:=hp.symm.trans (Ys t s 7 1 hc)
    subst e
    refine Wk qTP1.1 trivial ?_
    first|exact Fn @Tryz.results276 qTP1.1 trivial|refine Fn @Tryz.results276 qTP1.1 ?_
   ·refine Wk qTP1.1 trivial ?_
    refine Zb 2 ⟨by omega,by omega,(Yt t s 7 1 hc).symm.trans hp⟩ (by omega) (by refine Le.of (τ:=[]) (ν:=[]) (by kernel_rfl) ?_ ?_<;>((first|exact Lw qTP1.1 trivial|refine Lw qTP1.1 ?_);try omega))
  ·omega
 ·refine Wk qTP1.1 trivial ?_
  refine Cc ?_ ?_<;>intro hc<;>(try simp only[Za,ne_eq]at hc)
  ·refine Wk qTP1.1 trivial ?_
   refine Cc ?_ ?_<;>intro hc<;>(try simp only[Za,ne_eq]at hc)
   ·have e:r=2:=hp.symm.trans (Ys t s 6 2 hc)
    subst e
    refine Wk qTP1.1 trivial ?_
    first|exact Fn @Tryz.results276 qTP1.1 trivial|refine Fn @Tryz.results276 qTP1.1 ?_
   ·refine Wk qTP1.1 trivial ?_
    refine Zb 3 ⟨by omega,by omega,(Yt t s 6 2 hc).symm.trans hp⟩ (by omega) (by refine Le.of (τ:=[]) (ν:=[]) (by kernel_rfl) ?_ ?_<;>((first|exact Lw qTP1.1 trivial|refine Lw qTP1.1 ?_);try omega))
  ·omega
 ·refine Wk qTP1.1 trivial ?_
  refine Cc ?_ ?_<;>intro hc<;>(try simp only[Za,ne_eq]at hc)
  ·refine Wk qTP1.1 trivial ?_
   refine Cc ?_ ?_<;>intro hc<;>(try simp only[Za,ne_eq]at hc)
   ·have e:r=3:=hp.symm.trans (Ys t s 5 3 hc)
    subst e
    refine Wk qTP1.1 trivial ?_
    first|exact Fn @Tryz.results276 qTP1.1 trivial|refine Fn @Tryz.results276 qTP1.1 ?_
   ·refine Wk qTP1.1 trivial ?_
    refine Zb 4 ⟨by omega,by omega,(Yt t s 5 3 hc).symm.trans hp⟩ (by omega) (by refine Le.of (τ:=[]) (ν:=[]) (by kernel_rfl) ?_ ?_<;>((first|exact Lw qTP1.1 trivial|refine Lw qTP1.1 ?_);try omega))
  ·omega
 ·refine Wk qTP1.1 trivial ?_
  refine Cc ?_ ?_<;>intro hc<;>(try simp only[Za,ne_eq]at hc)
  ·refine Wk qTP1.1 trivial ?_
   refine Cc ?_ ?_<;>intro hc<;>(try simp only[Za,ne_eq]at hc)
   ·have e:r=4:=hp.symm.trans (Ys t s 4 4 hc)
    subst e
    refine Wk qTP1.1 trivial ?_
    first|exact Fn @Tryz.results276 qTP1.1 trivial|refine Fn @Tryz.results276 qTP1.1 ?_
   ·refine Wk qTP1.1 trivial ?_
    refine Zb 5 ⟨by omega,by omega,(Yt t s 4 4 hc).symm.trans hp⟩ (by omega) (by refine Le.of (τ:=[]) (ν:=[]) (by kernel_rfl) ?_ ?_<;>((first|exact Lw qTP1.1 trivial|refine Lw qTP1.1 ?_);try omega))
  ·omega
 ·refine Wk qTP1.1 trivial ?_
  refine Cc ?_ ?_<;>intro hc<;>(try simp only[Za,ne_eq]at hc)
  ·refine Wk qTP1.1 trivial ?_
   refine Cc ?_ ?_<;>intro hc<;>(try simp only[Za,ne_eq]at hc)
   ·have e:r=5:=hp.symm.trans (Ys t s 3 5 hc)
    subst e
    refine Wk qTP1.1 trivial ?_
    first|exact Fn @Tryz.results276 qTP1.1 trivial|refine Fn @Tryz.results276 qTP1.1 ?_
   ·refine Wk qTP1.1 trivial ?_
    refine Zb 6 ⟨by omega,by omega,(Yt t s 3 5 hc).symm.trans hp⟩ (by omega) (by refine Le.of (τ:=[]) (ν:=[]) (by kernel_rfl) ?_ ?_<;>((first|exact Lw qTP1.1 trivial|refine Lw qTP1.1 ?_);try omega))
  ·omega
 ·refine Wk qTP1.1 trivial ?_
  refine Cc ?_ ?_<;>intro hc<;>(try simp only[Za,ne_eq]at hc)
  ·refine Wk qTP1.1 trivial ?_
   refine Cc ?_ ?_<;>intro hc<;>(try simp only[Za,ne_eq]at hc)
   ·have e:r=6:=hp.symm.trans (Ys t s 2 6 hc)
    subst e
    refine Wk qTP1.1 trivial ?_
    first|exact Fn @Tryz.results276 qTP1.1 trivial|refine Fn @Tryz.results276 qTP1.1 ?_
   ·refine Wk qTP1.1 trivial ?_
    refine Zb 7 ⟨by omega,by omega,(Yt t s 2 6 hc).symm.trans hp⟩ (by omega) (by refine Le.of (τ:=[]) (ν:=[]) (by kernel_rfl) ?_ ?_<;>((first|exact Lw qTP1.1 trivial|refine Lw qTP1.1 ?_);try omega))
  ·omega
 ·refine Wk qTP1.1 trivial ?_
  refine Cc ?_ ?_<;>intro hc<;>(try simp only[Za,ne_eq]at hc)
  ·refine Wk qTP1.1 trivial ?_
   refine Cc ?_ ?_<;>intro hc<;>(try simp only[Za,ne_eq]at hc)
   ·have e:r=7:=hp.symm.trans (Ys t s 1 7 hc)
    subst e
    refine Wk qTP1.1 trivial ?_
    first|exact Fn @Tryz.results276 qTP1.1 trivial|refine Fn @Tryz.results276 qTP1.1 ?_
   ·refine Wk qTP1.1 trivial ?_
    refine Zb 8 ⟨by omega,by omega,(Yt t s 1 7 hc).symm.trans hp⟩ (by omega) (by refine Le.of (τ:=[]) (ν:=[]) (by kernel_rfl) ?_ ?_<;>((first|exact Lw qTP1.1 trivial|refine Lw qTP1.1 ?_);try omega))
  ·omega
 ·refine Wk qTP1.1 trivial ?_
  refine Cc ?_ ?_<;>intro hc<;>(try simp only[Za,ne_eq]at hc)
  ·refine Wk qTP1.1 trivial ?_
   refine Cc ?_ ?_<;>intro hc<;>(try simp only[Za,ne_eq]at hc)
   ·have e:r=8:=hp.symm.trans (Ys t s 0 8 hc)
    subst e
    refine Wk qTP1.1 trivial ?_
    first|exact Fn @Tryz.results276 qTP1.1 trivial|refine Fn @Tryz.results276 qTP1.1 ?_
   ·refine Wk qTP1.1 trivial ?_
    refine Zb 9 ⟨by omega,by omega,(Yt t s 0 8 hc).symm.trans hp⟩ (by omega) (by refine Le.of (τ:=[]) (ν:=[]) (by kernel_rfl) ?_ ?_<;>((first|exact Lw qTP1.1 trivial|refine Lw qTP1.1 ?_);try omega))
  ·omega
 ·refine Wk qTP1.1 trivial ?_
  refine Cc ?_ ?_<;>intro hc<;>(try simp only[Za,ne_eq]at hc)
  ·omega
  ·have e:r=0:=hp.symm
   subst e
   refine Wk qTP1.1 trivial ?_
   first|exact Fn @Tryz.results276 qTP1.1 trivial|refine Fn @Tryz.results276 qTP1.1 ?_
end
section
open NU
def numW (l:List UInt8):Int:=if (parseS l).2=0 then (parseS l).1 else -1
theorem numw_c (l:List UInt8) (hl:l.length≤1000) (r:Int) (hr:numW l=r):ACall Tryz.prog 306 [] [StD (str l)] (I r) []:=by
 unfold numW at hr
 obtain ⟨⟨v,e⟩,he⟩:∃y,parseS l=y:=⟨_,rfl⟩
 have hp:=parse_c l hl _ he
 rw[he]at hr
 dsimp only at hr
 refine Ac Tryz.func306 ?_
 refine Wk @Zg @hp ?_
 refine Cc ?_ ?_<;>intro hc<;>(try simp only[Za,ne_eq]at hc)
 ·rw[if_neg hc]at hr
  subst hr
  refine Wk @Zg @hp ?_
  first|exact Fn @Tryz.results306 @Zg trivial|refine Fn @Tryz.results306 @Zg ?_
 ·rw[if_pos (by omega)]at hr
  subst hr
  refine Wk @Zg @hp ?_
  first|exact Fn @Tryz.results306 @Zg trivial|refine Fn @Tryz.results306 @Zg ?_
theorem wordAt_c (l:List ByteArray) (i:Nat) (hl:l.length≤100000) (r:ByteArray) (hr:l.getD i ⟨#[]⟩=r):ACall Tryz.prog 305 [] [I i,.q [ssV l]] (StD r) []:=by
 refine Ac Tryz.func305 ?_
 refine Wk @Zg trivial ?_
 refine Cc ?_ ?_<;>intro hc<;>(try simp only[Za,ne_eq]at hc)
 ·have hil:i<l.length:=by omega
  have e:l.getD i default=r:=hr
  refine Wk @Zg trivial ?_
  first|exact Fn @Tryz.results305 @Zg trivial|refine Fn @Tryz.results305 @Zg ?_
  exact e.symm
 ·have e:r=⟨#[]⟩:=by
   rw[←hr,List.getD_eq_getElem?_getD,List.getElem?_eq_none (by omega)];rfl
  subst e
  refine Wk @Zg trivial ?_
  first|exact Fn @Tryz.results305 @Zg trivial|refine Fn @Tryz.results305 @Zg ?_
end
section
open NU
theorem evO_g1 (En:Nat→D):evO En (.global 1)=.q [vS (str (asksL.getD 0 [])),vS (str (asksL.getD 1 [])),vS (str (asksL.getD 2 [])),vS (str (asksL.getD 3 [])),vS (str (asksL.getD 4 [])),vS (str (asksL.getD 5 [])),vS (str (asksL.getD 6 [])),vS (str (asksL.getD 7 [])),vS (str (asksL.getD 8 []))]:=rfl
theorem evO_g2 (En:Nat→D):evO En (.global 2)=.q [vS (str (execsL.getD 0 [])),vS (str (execsL.getD 1 [])),vS (str (execsL.getD 2 [])),vS (str (execsL.getD 3 [])),vS (str (execsL.getD 4 [])),vS (str (execsL.getD 5 [])),vS (str (execsL.getD 6 [])),vS (str (execsL.getD 7 [])),vS (str (execsL.getD 8 []))]:=rfl
def wAt (ws:List (List UInt8)) (j:Int):ByteArray:=str (ws.getD j.toNat [])
def nAt (ws:List (List UInt8)) (j:Int):Int:=numW (ws.getD j.toNat [])
theorem wAt_c (ws:List (List UInt8)) (hl:ws.length≤1000) (j:Int) (hj:0≤j):ACall Tryz.prog 305 [] [I j,.q [ssV (ws.map str)]] (StD (wAt ws j)) []:=by
 obtain ⟨i,rfl⟩:=Int.eq_ofNat_of_zero_le hj
 refine wordAt_c (ws.map str) i (by rw[List.length_map];omega) _ ?_
 unfold wAt
 rw[Int.toNat_natCast,List.getD_eq_getElem?_getD,List.getD_eq_getElem?_getD,List.getElem?_map]
 cases ws[i]?<;>rfl
theorem nAt_c (ws:List (List UInt8)) (h:∀w,w∈ws→w.length≤1000) (j:Int):ACall Tryz.prog 306 [] [StD (wAt ws j)] (I (nAt ws j)) []:=by
 refine numw_c _ ?_ _ rfl
 rw[List.getD_eq_getElem?_getD]
 cases hw:ws[j.toNat]? with
 | none=>exact Nat.zero_le _
 | some w=>exact h w (List.mem_of_getElem? hw)
def buyS:List UInt8:=[98,117,121]
def zLim:NA.Lim:=⟨⟨#[]⟩,⟨#[]⟩,0,0,0,0⟩
def zExe:Exe:=⟨⟨#[]⟩,⟨#[]⟩,⟨#[]⟩,⟨#[]⟩,⟨#[]⟩,0,false,0,0,0⟩
def zOrd:Ord:=⟨⟨#[]⟩,⟨#[]⟩,⟨#[]⟩,false,0,0,0,false⟩
def asked1 (ws:List (List UInt8)):Ask:=⟨1,nAt ws 1,⟨wAt ws 2,wAt ws 3,wAt ws 4,((wAt ws 5).data.toList == buyS),nAt ws 6,nAt ws 7,0,false⟩,⟨#[]⟩,zExe,0,false,zLim⟩
def qTB1:=PLift.up (An @evO_g1 @evO_g2)
theorem asked1_c (ws:List (List UInt8)) (hl:ws.length≤1000) (h:∀w,w∈ws→w.length≤1000):ACall Tryz.prog 277 [] [I 1,ssD (ws.map str)] (aD (asked1 ws)) []:=by
 have hw:=wAt_c ws hl
 have hn:=nAt_c ws h
 refine Ac Tryz.func277 ?_
 refine Wk qTB1.1 (An @hw @hn) ?_
 refine Cc ?_ ?_<;>intro hc<;>(try simp only[Za,ne_eq]at hc)
 ·refine Wk qTB1.1 (An @hw @hn) ?_
  refine Cc ?_ ?_<;>intro hc<;>(try simp only[Za,ne_eq]at hc)
  ·refine Wk qTB1.1 (An @hw @hn) ?_
   refine Cc ?_ ?_<;>intro hc<;>(try simp only[Za,ne_eq]at hc)
   ·refine Wk qTB1.1 (An @hw @hn) ?_
    first|exact Fn @Tryz.results277 qTB1.1 trivial|refine Fn @Tryz.results277 qTB1.1 ?_
    exact ⟨rfl,rfl,rfl,rfl,rfl,rfl,rfl,rfl,rfl,rfl,rfl,rfl,rfl,rfl,rfl,rfl,rfl,rfl,rfl,rfl,rfl,rfl,rfl,rfl,rfl,rfl,rfl,rfl,rfl⟩
   ·contradiction
  ·contradiction
 ·contradiction
def asked8 (ws:List (List UInt8)):Ask:=⟨8,0,zOrd,⟨#[]⟩,zExe,0,false,⟨wAt ws 1,wAt ws 2,nAt ws 3,nAt ws 4,nAt ws 5,nAt ws 6⟩⟩
theorem asked8_c (ws:List (List UInt8)) (hl:ws.length≤1000) (h:∀w,w∈ws→w.length≤1000):ACall Tryz.prog 277 [] [I 8,ssD (ws.map str)] (aD (asked8 ws)) []:=by
 have hw:=wAt_c ws hl
 have hn:=nAt_c ws h
 refine Ac Tryz.func277 ?_
 refine Wk qTB1.1 (An @hw @hn) ?_
 refine Cc ?_ ?_<;>intro hc<;>(try simp only[Za,ne_eq]at hc)
 ·contradiction
 ·refine Wk qTB1.1 (An @hw @hn) ?_
  refine Cc ?_ ?_<;>intro hc<;>(try simp only[Za,ne_eq]at hc)
  ·contradiction
  ·refine Wk qTB1.1 (An @hw @hn) ?_
   refine Cc ?_ ?_<;>intro hc<;>(try simp only[Za,ne_eq]at hc)
   ·contradiction
   ·refine Wk qTB1.1 (An @hw @hn) ?_
    refine Cc ?_ ?_<;>intro hc<;>(try simp only[Za,ne_eq]at hc)
    ·contradiction
    ·refine Wk qTB1.1 (An @hw @hn) ?_
     refine Cc ?_ ?_<;>intro hc<;>(try simp only[Za,ne_eq]at hc)
     ·contradiction
     ·refine Wk qTB1.1 (An @hw @hn) ?_
      refine Cc ?_ ?_<;>intro hc<;>(try simp only[Za,ne_eq]at hc)
      ·contradiction
      ·refine Wk qTB1.1 (An @hw @hn) ?_
       refine Cc ?_ ?_<;>intro hc<;>(try simp only[Za,ne_eq]at hc)
       ·contradiction
       ·refine Wk qTB1.1 (An @hw @hn) ?_
        refine Cc ?_ ?_<;>intro hc<;>(try simp only[Za,ne_eq]at hc)
        ·contradiction
        ·refine Wk qTB1.1 (An @hw @hn) ?_
         refine Cc ?_ ?_<;>intro hc<;>(try simp only[Za,ne_eq]at hc)
         ·contradiction
         ·refine Wk qTB1.1 (An @hw @hn) ?_
          refine Cc ?_ ?_<;>intro hc<;>(try simp only[Za,ne_eq]at hc)
          ·contradiction
          ·refine Wk qTB1.1 (An @hw @hn) ?_
           refine Cc ?_ ?_<;>intro hc<;>(try simp only[Za,ne_eq]at hc)
           ·contradiction
           ·refine Wk qTB1.1 (An @hw @hn) ?_
            refine Cc ?_ ?_<;>intro hc<;>(try simp only[Za,ne_eq]at hc)
            ·refine Wk qTB1.1 (An @hw @hn) ?_
             first|exact Fn @Tryz.results277 qTB1.1 trivial|refine Fn @Tryz.results277 qTB1.1 ?_
             exact ⟨rfl,rfl,rfl,rfl,rfl,rfl,rfl,rfl,rfl,rfl,rfl,rfl,rfl,rfl,rfl,rfl,rfl,rfl,rfl,rfl,rfl,rfl,rfl,rfl,rfl,rfl,rfl,rfl,rfl⟩
            ·contradiction
def asked3 (ws:List (List UInt8)) (ref:ByteArray):Ask:=⟨3,nAt ws 1,zOrd,⟨#[]⟩,⟨wAt ws 3,ref,wAt ws 5,wAt ws 6,wAt ws 7,placeL (fun i=>str (execsL.getD i [])) (wAt ws 2) 8 1,((wAt ws 8).data.toList == buyS),nAt ws 9,nAt ws 10,nAt ws 11⟩,0,false,zLim⟩
theorem asked3_c (ws:List (List UInt8)) (hl:ws.length≤1000) (h:∀w,w∈ws→w.length≤1000) (ref:ByteArray) (hr:(if (wAt ws 4).data.toList=[45] then ⟨#[]⟩ else wAt ws 4)=ref):ACall Tryz.prog 277 [] [I 3,ssD (ws.map str)] (aD (asked3 ws ref)) []:=by
 have hw:=wAt_c ws hl
 have hn:=nAt_c ws h
 have hpl:=place_c (fun i=>str (execsL.getD i [])) (wAt ws 2) _ rfl
 refine Ac Tryz.func277 ?_
 refine Wk qTB1.1 (An @hw (An @hn @hpl)) ?_
 refine Cc ?_ ?_<;>intro hc<;>(try simp only[Za,ne_eq]at hc)
 ·contradiction
 ·refine Wk qTB1.1 (An @hw (An @hn @hpl)) ?_
  refine Cc ?_ ?_<;>intro hc<;>(try simp only[Za,ne_eq]at hc)
  ·contradiction
  ·refine Wk qTB1.1 (An @hw (An @hn @hpl)) ?_
   refine Cc ?_ ?_<;>intro hc<;>(try simp only[Za,ne_eq]at hc)
   ·refine Wk qTB1.1 (An @hw (An @hn @hpl)) ?_
    refine Cc ?_ ?_<;>intro hc<;>(try simp only[Za,ne_eq]at hc)
    ·refine Wk qTB1.1 (An @hw (An @hn @hpl)) ?_
     refine Cc ?_ ?_<;>intro hc<;>(try simp only[Za,ne_eq]at hc)
     ·contradiction
     ·refine Wk qTB1.1 (An @hw (An @hn @hpl)) ?_
      refine Cc ?_ ?_<;>intro hc<;>(try simp only[Za,ne_eq]at hc)
      ·contradiction
      ·refine Wk qTB1.1 (An @hw (An @hn @hpl)) ?_
       refine Cc ?_ ?_<;>intro hc<;>(try simp only[Za,ne_eq]at hc)
       ·refine Wk qTB1.1 (An @hw (An @hn @hpl)) ?_
        refine Cc ?_ ?_<;>intro hc<;>(try simp only[Za,ne_eq]at hc)
        ·rw[if_pos hc]at hr
         subst hr
         refine Wk qTB1.1 (An @hw (An @hn @hpl)) ?_
         first|exact Fn @Tryz.results277 qTB1.1 trivial|refine Fn @Tryz.results277 qTB1.1 ?_
         exact ⟨rfl,rfl,rfl,rfl,rfl,rfl,rfl,rfl,rfl,rfl,rfl,rfl,rfl,rfl,rfl,rfl,rfl,rfl,rfl,rfl,rfl,rfl,rfl,rfl,rfl,rfl,rfl,rfl,rfl⟩
        ·rw[if_neg hc]at hr
         subst hr
         refine Wk qTB1.1 (An @hw (An @hn @hpl)) ?_
         first|exact Fn @Tryz.results277 qTB1.1 trivial|refine Fn @Tryz.results277 qTB1.1 ?_
         exact ⟨rfl,rfl,rfl,rfl,rfl,rfl,rfl,rfl,rfl,rfl,rfl,rfl,rfl,rfl,rfl,rfl,rfl,rfl,rfl,rfl,rfl,rfl,rfl,rfl,rfl,rfl,rfl,rfl,rfl⟩
       ·contradiction
    ·contradiction
   ·contradiction
end
section
open NU
def sideS (b:Bool):ByteArray:=if b then ⟨#[98,117,121]⟩ else ⟨#[115,101,108,108]⟩
def refS (s:ByteArray):ByteArray:=if (s.data.toList == [])=true then ⟨#[45]⟩ else s
noncomputable def words1 (a:Ask):List ByteArray:=[str (asksL.getD 1 []),strN a.ven,a.o.id,a.o.acc,a.o.sym,sideS a.o.buy,strN a.o.qty,strN a.o.price]
def qTW2:=PLift.up (An @NU.Zz @choose_c)
def qTW1:=PLift.up (An @evO_g1 @evO_g2)
theorem words1_c (a:Ask):ACall Tryz.prog 307 [] [aD { a with kind:=1 }] (ssD (words1 a)) []:=by
 refine Ac Tryz.func307 ?_
 refine Wk qTW1.1 qTW2.1 ?_
 refine Cc ?_ ?_<;>intro hc<;>(try simp only[Za,ne_eq]at hc)
 ·refine Wk qTW1.1 qTW2.1 ?_
  first|exact Fn @Tryz.results307 qTW1.1 trivial|refine Fn @Tryz.results307 qTW1.1 ?_
  exact ⟨rfl,by simp⟩
 ·contradiction
noncomputable def words8 (a:Ask):List ByteArray:=[str (asksL.getD 8 []),a.l.acc,a.l.sym,strN a.l.long,strN a.l.short,strN a.l.qty,strN a.l.value]
theorem words8_c (a:Ask):ACall Tryz.prog 307 [] [aD { a with kind:=8 }] (ssD (words8 a)) []:=by
 refine Ac Tryz.func307 ?_
 refine Wk qTW1.1 qTW2.1 ?_
 refine Cc ?_ ?_<;>intro hc<;>(try simp only[Za,ne_eq]at hc)
 ·contradiction
 ·refine Wk qTW1.1 qTW2.1 ?_
  refine Cc ?_ ?_<;>intro hc<;>(try simp only[Za,ne_eq]at hc)
  ·contradiction
  ·refine Wk qTW1.1 qTW2.1 ?_
   refine Cc ?_ ?_<;>intro hc<;>(try simp only[Za,ne_eq]at hc)
   ·contradiction
   ·refine Wk qTW1.1 qTW2.1 ?_
    refine Cc ?_ ?_<;>intro hc<;>(try simp only[Za,ne_eq]at hc)
    ·contradiction
    ·refine Wk qTW1.1 qTW2.1 ?_
     refine Cc ?_ ?_<;>intro hc<;>(try simp only[Za,ne_eq]at hc)
     ·contradiction
     ·refine Wk qTW1.1 qTW2.1 ?_
      refine Cc ?_ ?_<;>intro hc<;>(try simp only[Za,ne_eq]at hc)
      ·contradiction
      ·refine Wk qTW1.1 qTW2.1 ?_
       refine Cc ?_ ?_<;>intro hc<;>(try simp only[Za,ne_eq]at hc)
       ·refine Wk qTW1.1 qTW2.1 ?_
        first|exact Fn @Tryz.results307 qTW1.1 trivial|refine Fn @Tryz.results307 qTW1.1 ?_
        exact ⟨rfl,by simp⟩
       ·contradiction
noncomputable def words31 (a:Ask):List ByteArray:=[str (asksL.getD 3 []),strN a.ven,str (execsL.getD 1 []),a.x.id,refS a.x.ref,a.x.ord,a.x.acc,a.x.sym,sideS a.x.buy,strN a.x.qty,strN a.x.price,strN a.x.time]
theorem words31_c (a:Ask):ACall Tryz.prog 307 [] [aD { a with kind:=3,x:={ a.x with kind:=1 } }] (ssD (words31 a)) []:=by
 refine Ac Tryz.func307 ?_
 refine Wk qTW1.1 qTW2.1 ?_
 refine Cc ?_ ?_<;>intro hc<;>(try simp only[Za,ne_eq]at hc)
 ·contradiction
 ·refine Wk qTW1.1 qTW2.1 ?_
  refine Cc ?_ ?_<;>intro hc<;>(try simp only[Za,ne_eq]at hc)
  ·contradiction
  ·refine Wk qTW1.1 qTW2.1 ?_
   refine Cc ?_ ?_<;>intro hc<;>(try simp only[Za,ne_eq]at hc)
   ·refine Wk qTW1.1 qTW2.1 ?_
    first|exact Fn @Tryz.results307 qTW1.1 trivial|refine Fn @Tryz.results307 qTW1.1 ?_
    exact ⟨rfl,by simp⟩
   ·contradiction
noncomputable def words32 (a:Ask):List ByteArray:=[str (asksL.getD 3 []),strN a.ven,str (execsL.getD 2 []),a.x.id,refS a.x.ref,a.x.ord,a.x.acc,a.x.sym,sideS a.x.buy,strN a.x.qty,strN a.x.price,strN a.x.time]
theorem words32_c (a:Ask):ACall Tryz.prog 307 [] [aD { a with kind:=3,x:={ a.x with kind:=2 } }] (ssD (words32 a)) []:=by
 refine Ac Tryz.func307 ?_
 refine Wk qTW1.1 qTW2.1 ?_
 refine Cc ?_ ?_<;>intro hc<;>(try simp only[Za,ne_eq]at hc)
 ·contradiction
 ·refine Wk qTW1.1 qTW2.1 ?_
  refine Cc ?_ ?_<;>intro hc<;>(try simp only[Za,ne_eq]at hc)
  ·contradiction
  ·refine Wk qTW1.1 qTW2.1 ?_
   refine Cc ?_ ?_<;>intro hc<;>(try simp only[Za,ne_eq]at hc)
   ·refine Wk qTW1.1 qTW2.1 ?_
    first|exact Fn @Tryz.results307 qTW1.1 trivial|refine Fn @Tryz.results307 qTW1.1 ?_
    exact ⟨rfl,by simp⟩
   ·contradiction
def spS:ByteArray:=⟨#[32]⟩
theorem tshow_c (a:Ask) (ws:List ByteArray) (hw:ACall Tryz.prog 307 [] [aD a] (ssD ws) []) (hl:ws.length≤1000) (hs:(joinS ws spS).size≤1000000) (he:(putK a).2=0) :
 ACall Tryz.prog 278 [] [aD a] (.t [.c (.v (vS (joinS ws spS))),.c (.v (vI 0))]) []:=by
 obtain ⟨⟨bs,e⟩,hP⟩:∃y,putK a=y:=⟨_,rfl⟩
 have hput:=kput_c a _ hP
 rw[hP]at he
 dsimp only at he hput
 subst he
 have hj:=join_c ws spS hl hs
 refine Ac Tryz.func278 ?_
 refine Wk trivial (An @hput (An @hw @hj)) ?_
 refine Cc ?_ ?_<;>intro hc<;>(try simp only[Za,ne_eq]at hc)
 ·contradiction
 ·refine Wk trivial (An @hput (An @hw @hj)) ?_
  first|exact Fn @Tryz.results278 trivial trivial|refine Fn @Tryz.results278 trivial ?_
end
section
open NU
abbrev asksT (i:Nat):ByteArray:=str (asksL.getD i [])
def qTQ1:=PLift.up (An @evO_g1 (An @evO_g2 @Zg))
theorem tparse_c (l:List UInt8) (hl:l.length≤256) (ws:List (List UInt8)) (hws:splL 32 l=ws) (k:Int) (hk:placeL asksT (wAt ws 0) 8 1=k) (hk0:k≠0) (a:Ask)
 (ha:ACall Tryz.prog 277 [] [I k,ssD (ws.map str)] (aD a) []) (hsh:ACall Tryz.prog 278 [] [aD a] (.t [.c (.v (vS (str l))),.c (.v (vI 0))]) []) :
 ACall Tryz.prog 241 [] [StD (str l)] (.t [.a (aC a),.c (.v (vI 0))]) []:=by
 have hsp:=split2_c l 32 (by omega)
 rw[hws]at hsp
 have hpl:=place_c asksT (wAt ws 0) k hk
 have hlen:ws.length=l.count 32+1:=by rw[←hws,splL_len]
 have hzl:(((str l).size:Nat):Int)=l.length:=rfl
 have hw0:(ws.map str).getD 0 default=wAt ws 0:=by
  unfold wAt
  rw[List.getD_eq_getElem?_getD,List.getElem?_map,List.getD_eq_getElem?_getD]
  cases ws with
  | nil=>simp at hlen
  | cons w r=>rfl
 refine Ac Tryz.func241 ?_
 refine Wk (An @hw0 qTQ1.1) (An @hsp (An @hpl (An @ha @hsh))) ?_
 refine Cc ?_ ?_<;>intro hc<;>(try simp only[Za,ne_eq]at hc)
 ·omega
 ·refine Wk (An @hw0 qTQ1.1) (An @hsp (An @hpl (An @ha @hsh))) ?_
  refine Cc ?_ ?_<;>intro hc<;>(try simp only[Za,ne_eq]at hc)
  ·contradiction
  ·refine Wk (An @hw0 qTQ1.1) (An @hsp (An @hpl (An @ha @hsh))) ?_
   refine Cc ?_ ?_<;>intro hc<;>(try simp only[Za,ne_eq]at hc)
   ·contradiction
   ·refine Wk (An @hw0 qTQ1.1) (An @hsp (An @hpl (An @ha @hsh))) ?_
    first|exact Fn @Tryz.results241 (An @hw0 qTQ1.1) trivial|refine Fn @Tryz.results241 (An @hw0 qTQ1.1) ?_
end
end Eng
end Go.Proofs.YtgenjpingdkmgaaGreatDoor
