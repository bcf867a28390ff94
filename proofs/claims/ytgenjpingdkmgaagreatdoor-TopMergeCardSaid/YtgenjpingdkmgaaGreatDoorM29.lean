/- Contracts of functions that this seat's law calls. No condition. -/
import Derived.Test.YtgenjpingdkmgaaGreatDoorM28
set_option maxRecDepth 100000
set_option linter.unusedSimpArgs false
set_option linter.unusedVariables false
namespace Go.Proofs.YtgenjpingdkmgaaGreatDoor
namespace Eng
noncomputable def rotL (g:Gat) (t i:Nat):List NA.Pos:=lallF (g.vens.getD ((i+t) % 3) default).bk
abbrev tnD (n:Int):D:=.e (.c (.v (.x (.int .u8 n))))
theorem rot_perm {g:Gat} (hn:g.vens.length=3) (t:Nat):((List.range 3).map (rotL g t)).Perm (listsG g):=by
 obtain ⟨vens,lims,kill,now,pat⟩:=g
 dsimp only at hn
 match vens,hn with
 | [a,b,c],_ =>
  have hr:(List.range 3).map (rotL ⟨[a,b,c],lims,kill,now,pat⟩ t)=[rotL ⟨[a,b,c],lims,kill,now,pat⟩ t 0,rotL ⟨[a,b,c],lims,kill,now,pat⟩ t 1,rotL ⟨[a,b,c],lims,kill,now,pat⟩ t 2]:=rfl
  rw[hr]
  unfold rotL listsG
  rcases (show t % 3=0∨t % 3=1∨t % 3=2 by omega) with h|h|h
  ·rw[show (0+t) % 3=0 by omega,show (1+t) % 3=1 by omega,show (2+t) % 3=2 by omega]
   exact List.Perm.refl _
  ·rw[show (0+t) % 3=1 by omega,show (1+t) % 3=2 by omega,show (2+t) % 3=0 by omega]
   exact (List.perm_append_comm (l₁:=[lallF b.bk,lallF c.bk]) (l₂:=[lallF a.bk]))
  ·rw[show (0+t) % 3=2 by omega,show (1+t) % 3=0 by omega,show (2+t) % 3=1 by omega]
   exact (List.perm_append_comm (l₁:=[lallF c.bk]) (l₂:=[lallF a.bk,lallF b.bk]))
theorem lall_len (b:Bk) (h:bkP b):(lallF b).length≤256:=by
 have h1:=h.fl
 have h2:=dedT_len (sortN (namesF b)) (sortN (namesF b)).length
 unfold lallF
 rw[List.length_map]
 rw[sortN_len,namesF,List.length_map]at h2
 unfold dedN
 rw[sortN_len,namesF,List.length_map]
 omega
theorem flat_le:∀ls:List (List NA.Pos),(∀l,l∈ls→l.length≤256)→ls.flatten.length≤256*ls.length
 | [],_=>Nat.le_refl _
 | l::ls,h=>by
  have h1:=h l (List.mem_cons_self ..)
  have h2:=flat_le ls fun m hm=>h m (List.mem_cons_of_mem _ hm)
  rw[List.flatten_cons,List.length_append,List.length_cons];omega
def qMW1:=PLift.up (An @getD_aR (An @getD_vR (An @NA.getD_LR (An @NA.getD_pR @neg_w))))
theorem merge_run (hW:ACall Tryz.prog 6 [] [] (B true) []) (l:List Ask) (t:Nat) (ht:t≤255):ACall Tryz.prog 3 [] [asksD l,tnD t] (B true) []:=by
 have hnew:ACall Tryz.prog 7 [] [I 3,I 20] (.t [.a (keC (newE 3 20) (newG 3 20)),.c (.v (vI 0))]) []:=knew_c 3 20 (by omega) (by omega) (by unfold timeP;omega)
 refine Ac Tryz.func3 ?_
 by_cases h24:24<l.length
 ·have e24:decide ((24:Int)<(l.length:Int))=true:=decide_eq_true (by omega)
  refine Wk (An @e24 qMW1.1) (An @hW @hnew) ?_
  refine Cc ?_ ?_<;>intro hc<;>(try simp only[Za,ne_eq]at hc)
  ·contradiction
  ·refine Wk (An @e24 qMW1.1) (An @hW @hnew) ?_
   refine Cc ?_ ?_<;>intro hc<;>(try simp only[Za,ne_eq]at hc)
   ·refine Wk (An @e24 qMW1.1) (An @hW @hnew) ?_
    first|exact Fn @Tryz.results3 (An @e24 qMW1.1) trivial|refine Fn @Tryz.results3 (An @e24 qMW1.1) ?_
   ·contradiction
 ·have e24:decide ((24:Int)<(l.length:Int))=false:=decide_eq_false (by omega)
  refine Wk (An @e24 qMW1.1) (An @hW @hnew) ?_
  refine Cc ?_ ?_<;>intro hc<;>(try simp only[Za,ne_eq]at hc)
  ·contradiction
  ·refine Wk (An @e24 qMW1.1) (An @hW @hnew) ?_
   refine Cc ?_ ?_<;>intro hc<;>(try simp only[Za,ne_eq]at hc)
   ·contradiction
   ·refine Wk (An @e24 qMW1.1) (An @hW @hnew) ?_
    have hk0:=newE_right 3 20
    have hg0:gatP (newG 3 20):=newG_right (by omega) (by omega) (by unfold timeP;omega)
    have hn0:(newG 3 20).vens.length=3:=rfl
    refine AWp.loop (fun s:Nat×Kee×Gat=>mkSt [(0,asksD l),(1,tnD t),(5,.p 0 0),(6,I 0),(7,I s.1)] [(0,.loc (keC s.2.1 s.2.2))] 1)
     (fun s=>s.1≤l.length∧keeP s.2.1∧gatP s.2.2∧s.2.2.vens.length=3) (fun s=>l.length - s.1) (0,newE 3 20,newG 3 20) ⟨Nat.zero_le _,hk0,hg0,hn0⟩ (by refine Le.of (τ:=[(0,640)]) (ν:=[]) (by kernel_rfl) ?_ ?_<;>((refine Lv (An @e24 qMW1.1) fun eE=>?_;first|exact Lw (@Box.out _ eE) trivial|refine Lw (@Box.out _ eE) ?_);try (first|omega|rfl|exact ⟨rfl,rfl⟩))) fun s hs=>?_
    clear hk0 hg0 hn0
    obtain ⟨j,k,g⟩:=s
    obtain ⟨hj,hk,hg,hn⟩:=hs
    dsimp only at hj hk hg hn ⊢
    refine Wk (An @e24 qMW1.1) (An @hW @hnew) ?_
    refine Cc ?_ ?_<;>intro hc<;>(try simp only[Za,ne_eq]at hc)
    ·have hjl:j<l.length:=by omega
     have hdo:=do_c k g (l.getD j default) hk hg _ rfl
     have hpr:=doK_right (a:=l.getD j default) hk hg
     refine Wk (An @e24 qMW1.1) (An @hW (An @hnew @hdo)) ?_
     refine Zb (j+1,(doK k g (l.getD j default)).1.1,(doK k g (l.getD j default)).1.2) ⟨by dsimp only;omega,hpr.1,hpr.2,by dsimp only;rw[do_len];exact hn⟩ (by dsimp only;omega) (by refine Le.of (τ:=[]) (ν:=[]) (by kernel_rfl) ?_ ?_<;>((refine Lv (An @e24 qMW1.1) fun eE=>?_;first|exact Lw (@Box.out _ eE) trivial|refine Lw (@Box.out _ eE) ?_);try omega))
    ·refine Wk (An @e24 qMW1.1) (An @hW @hnew) ?_
     refine Cc ?_ ?_<;>intro hc<;>(try simp only[Za,ne_eq]at hc)
     ·contradiction
     ·refine Wk (An @e24 qMW1.1) (An @hW @hnew) ?_
      refine AWp.loop (fun i:Nat=>mkSt [(1,tnD t),(5,.p 0 0),(8,.e (.c (.o 1 i))),(9,I i)] [(0,.loc (keC k g)),(1,.row 1 (NA.LR ((List.range i).map (rotL g t))))] 2)
       (fun i=>i≤3) (fun i=>3 - i) 0 (by omega) (by refine Le.of (τ:=[]) (ν:=[1]) (by kernel_rfl) ?_ ?_<;>((refine Lv (An @e24 qMW1.1) fun eE=>?_;first|exact Lw (@Box.out _ eE) trivial|refine Lw (@Box.out _ eE) ?_);try (first|omega|rfl))) fun i hi=>?_
      refine Wk (An @e24 qMW1.1) (An @hW @hnew) ?_
      refine Cc ?_ ?_<;>intro hc<;>(try simp only[Za,ne_eq]at hc)
      ·have hi3:i<3:=by omega
       have he1:((i:Int)+(t:Int)).tmod 3=(((i+t) % 3:Nat):Int):=by rw[Int.tmod_eq_emod_of_nonneg (by omega)];omega
       have hvl:(i+t) % 3<g.vens.length:=by omega
       have hb:=(hg.vens _ (Yd hvl)).bk
       have hall:=lall_c (g.vens.getD ((i+t) % 3) default).bk hb _ rfl
       have hz:(List.range (i+1)).map (rotL g t)=(List.range i).map (rotL g t)++[rotL g t i]:=by rw[List.range_succ,List.map_append];rfl
       refine Wk (An @e24 (An @he1 qMW1.1)) (An @hW (An @hnew @hall)) ?_
       refine Zb (i+1) (show i+1≤3 by omega) (by omega) (by refine Le.of (τ:=[(1,1026)]) (ν:=[]) (by kernel_rfl) ?_ ?_<;>((refine Lv (An @e24 (An @he1 qMW1.1)) fun eE=>?_;first|exact Lw (@Box.out _ eE) trivial|refine Lw (@Box.out _ eE) ?_);try (first|omega|rfl|(rw[hz];exact LR_app _ _ i (by simp)))))
      ·obtain rfl:i=3:=by omega
       obtain ⟨R,hR⟩:∃R,(List.range 3).map (rotL g t)=R:=⟨_,rfl⟩
       have hRl:R.length=3:=by rw[←hR];rfl
       have hRp:R.Perm (listsG g):=by rw[←hR];exact rot_perm hn t
       have hRr:∀q,q∈R→NA.rgtP q∧q.length≤256:=fun q hq=>by
        obtain ⟨v,hv,rfl⟩:=List.mem_map.1 (hRp.mem_iff.1 hq)
        exact ⟨lall_right _,lall_len _ (hg.vens v hv).bk⟩
       have hRf:=flat_le R fun q hq=>(hRr q hq).2
       have hGf:=flat_le (listsG g) fun q hq=>(hRr q (hRp.mem_iff.2 hq)).2
       have hGl:(listsG g).length=3:=by rw[listsG,List.length_map];exact hn
       obtain ⟨P,hP⟩:∃P,posG g=P:=⟨_,rfl⟩
       have hmer:ACall Tryz.prog 10 [] [.e (.c (.v (.s 1 (List.take 3 (NA.LR R)))))] (NA.resA (P,0)) []:=by
        rw[List.take_of_length_le (by rw[List.length_map];omega)]
        refine NA.all13_c R (by omega) (by omega) _ ?_
        rw[NA.allS_yes fun q hq=>(hRr q hq).1,NA.allF_perm hRp.flatten,←posG_eq,hP]
       have hpos:=gpos_c g hg (by omega) P hP
       have hPl:P.length≤1000:=by
        have h1:=NA.allF_len (listsG g).flatten
        rw[←posG_eq,hP]at h1
        omega
       have hsame:=NA.same17_c P (by omega)
       rw[hR]
       clear hi hc hR
       refine Wk (An @e24 qMW1.1) (An @hW (An @hnew (An @hmer (An @hpos @hsame)))) ?_
       refine Cc ?_ ?_<;>intro hc<;>(try simp only[Za,ne_eq]at hc)
       ·first|contradiction|(simp at hc;done)
       ·refine Wk (An @e24 qMW1.1) (An @hW (An @hnew (An @hmer (An @hpos @hsame)))) ?_
        refine AWp.loop (fun i:Nat=>mkSt [(5,.p 0 0),(8,NA.LL R),(12,NA.psD P),(13,I i)] [(0,.loc (keC k g))] 1)
         (fun i=>i≤P.length) (fun i=>P.length - i) 0 (Nat.zero_le _) (by refine Le.of (τ:=[]) (ν:=[]) (by kernel_rfl) ?_ ?_<;>((refine Lv (An @e24 qMW1.1) fun eE=>?_;first|exact Lw (@Box.out _ eE) trivial|refine Lw (@Box.out _ eE) ?_);try (first|omega|rfl|exact ⟨(List.take_of_length_le (by rw[List.length_map];omega)).symm,by omega⟩))) fun i hi=>?_
        refine Wk (An @e24 qMW1.1) (An @hW (An @hnew (An @hmer (An @hpos @hsame)))) ?_
        refine Cc ?_ ?_<;>intro hc<;>(try simp only[Za,ne_eq]at hc)
        ·have hil:i<P.length:=by omega
         obtain ⟨p,hp⟩:∃p,P.getD i default=p:=⟨_,rfl⟩
         have hpm:p∈posG g:=by
          rw[hP,←hp,NA.gp_el hil];exact List.getElem_mem hil
         have hgood:NA.goodP p:=by
          rw[posG_eq]at hpm
          rw[(NA.allF_is _).val p hpm];exact NA.togP_good _ _ _
         have hq:=hgood.1
         unfold NA.okN at hq
         have hworst:=gworst_c g p.acc p.sym hg
         obtain ⟨ob,hob⟩:∃b,R.any NA.anyO=b:=⟨_,rfl⟩
         have hover:=over_c R (by omega) (fun q hq=>by have:=(hRr q hq).2;omega) ob hob
         have hng:=Int.zero_sub p.qty
         refine Wk (An @e24 (An @hp (An @hng qMW1.1))) (An @hW (An @hnew (An @hmer (An @hpos (An @hsame (An @hworst @hover)))))) ?_
         refine Cc ?_ ?_<;>intro hc<;>(try simp only[Za,ne_eq]at hc)
         ·exfalso
          obtain ⟨⟨c1,c2⟩,c3⟩:=hc
          subst c2
          rw[List.any_eq_false]at hob
          have:=pos_worst hg hpm c1 fun q hq x hx=>by
           have h1:=hob q (hRp.mem_iff.2 hq)
           unfold NA.anyO at h1
           have h2:=List.any_eq_false.1 (Bool.eq_false_iff.2 h1) x hx
           simpa using h2
          omega
         ·refine Wk (An @e24 (An @hp (An @hng qMW1.1))) (An @hW (An @hnew (An @hmer (An @hpos (An @hsame (An @hworst @hover)))))) ?_
          refine Zb (i+1) (show i+1≤P.length by omega) (by omega) (by refine Le.of (τ:=[]) (ν:=[]) (by kernel_rfl) ?_ ?_<;>((refine Lv (An @e24 (An @hp (An @hng qMW1.1))) fun eE=>?_;first|exact Lw (@Box.out _ eE) trivial|refine Lw (@Box.out _ eE) ?_);try omega))
        ·refine Wk (An @e24 qMW1.1) (An @hW (An @hnew (An @hmer (An @hpos @hsame)))) ?_
         first|exact Fn @Tryz.results3 (An @e24 qMW1.1) trivial|refine Fn @Tryz.results3 (An @e24 qMW1.1) ?_
theorem topMerge_c (l:List Ask) (n:Int) (h1:IntKind.u8.min≤n) (h2:n≤IntKind.u8.max):ACall Tryz.prog 3 [] [asksD l,tnD n] (B true) []:=by
 have e1:IntKind.u8.min=0:=rfl
 have e2:IntKind.u8.max=255:=rfl
 rw[e1]at h1
 rw[e2]at h2
 obtain ⟨t,rfl⟩:=Int.eq_ofNat_of_zero_le h1
 exact merge_run works_c l t (by omega)
end Eng
end Go.Proofs.YtgenjpingdkmgaaGreatDoor
