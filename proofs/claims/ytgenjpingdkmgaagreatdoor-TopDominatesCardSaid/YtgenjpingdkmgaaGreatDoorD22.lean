/- Contracts of functions that this seat's law calls. No condition. -/
import Derived.Test.YtgenjpingdkmgaaGreatDoorRows
import Derived.Test.YtgenjpingdkmgaaGreatDoorD21
set_option maxRecDepth 100000
set_option linter.unusedSimpArgs false
set_option linter.unusedVariables false
open Go.Proofs.Tryz
namespace Go.Proofs.YtgenjpingdkmgaaGreatDoor
namespace Eng
namespace ND
instance (f:List Int):Decidable (goodF f):=by unfold goodF;exact inferInstance
def lookF (b:List Int):Option (Int×List Int×List (List Int)×Nat) :=
 match (all b).1 with
 | []=>none
 | f::rest=>if goodF f then some (genL (g8 f),f.drop 9,rest,(all b).2) else none
theorem all_mem (b:List Int) (hb:Byt b):∀r,r∈(all b).1->Byt r/\1<=r.length/\r.length<=4096:=by
 generalize hn:b.length=n
 induction n using Nat.strongRecOn generalizing b with
 | ind n ih =>
  obtain ⟨⟨r,m,e⟩,hnx⟩:∃q,next b=q:=⟨_,rfl⟩
  by_cases he:e=0
  .subst he;have hp:=(next_pos _ _ _ _ hnx).1 rfl;rw[all_ok hnx];intro x hx;rcases List.mem_cons.1 hx with rfl|hx
   .unfold next at hnx
    repeat' split at hnx
    all_goals first
     | (exfalso;cases hnx;done)
     | (cases hnx
        refine ⟨byt_drop (byt_take hb _) _,?_,?_⟩<;>(rw[nextR,List.length_drop,List.length_take];omega))
   .exact ih (b.drop m.toNat).length (by rw[List.length_drop];omega) _ (byt_drop hb _) rfl x hx
  .rw[all_no hnx he];intro x hx;cases hx
theorem lookNone_c (b:List Int) (hb:Byt b) (hlen:b.length<=1000000) (h:lookF b=none):ACall prog 136 [] [SB b] (.t [.a cZ,.c (.v (.x (.bool false)))]) []:=by
 unfold lookF at h;have hm:=all_mem b hb
 match ha:(all b).1 with
 | []=>exact lookNone0_c b hb hlen ha
 | f::rest =>
  rw[ha]at h hm;have hf:=(hm f (List.mem_cons_self ..)).1;simp only[]at h
  split at h
  .cases h
  .rename_i hg;by_cases h9:9<=f.length/\f.getD 0 0=71
   .exact lookBad_c b f rest hb hf hlen ha h9.1 h9.2 (by
     have:¬(1<=genL (g8 f)/\genL (g8 f)<=4611686018427387904):=fun x=>hg ⟨h9.1,h9.2,x.1,x.2⟩
     omega)
   .exact lookNone1_c b f rest hb hlen ha h9
abbrev resO (A:List C) (sn:List Int) (en:List (List Int)):D:=.t [.a A,.c (.v (sB sn)),.c (.v (.s 1 (rSS en))),.c (.v (vI 0))]
abbrev jZ:List C:=[nilC,nilC,nilC,nilC,.v (vI 0),.v (vI 0)]
def qDJ41:=PLift.up (An @List.getD_nil.{0} (An @Bool.true_and @Bool.and_true))
theorem openN_c (s0 t0 s1 t1:List Int) (hl0:lookF (s0++t0)=none) (hl1:lookF (s1++t1)=none) (hb0:Byt (s0++t0)) (hb1:Byt (s1++t1)) (h:okD s0 t0 s1 t1):ACall prog 81 [] [diskD s0 t0 s1 t1] (resO (jA (put (first 1 [])) [] s1 t1 0 1) [] []) []:=by
 have hd1:=h.1;have hd2:=h.2;have hright:=right_c s0 t0 s1 t1 h;have hread0:=read0_c s0 t0 s1 t1 h;have hread1:=read1_c s0 t0 s1 t1 h;have hlen0:(s0++t0).length<=65536:=by rw[List.length_append];exact h.1
 have hlen1:(s1++t1).length<=65536:=by rw[List.length_append];exact h.2
 have hlook0:=lookNone_c _ hb0 (by omega) hl0;have hlook1:=lookNone_c _ hb1 (by omega) hl1;have hcut:=(begin0_c s0 t0 s1 t1 1 [] h (by simp)).args (bs:=[diskD s0 t0 s1 t1,I 0,I 1,.e (.c (.v (.x (.slice none 0 0))))]) (by simp only[q_P,q_VLe,q_cells,List.map_nil,and_self,and_true,true_and,eq_self]);generalize s0++t0=b0 at *;generalize s1++t1=b1 at *;refine Ac func81 ?_;refine Wk qDJ41.1 (An @hright (An @hread0 (An @hread1 (An @hlook0 (An @hlook1 @hcut))))) ?_;refine Cb ?_ ?_<;>intro hc<;>(try exact ⟨⟩)
 .contradiction
 .refine Wk qDJ41.1 (An @hright (An @hread0 (An @hread1 (An @hlook0 (An @hlook1 @hcut))))) ?_
  refine AWp.loop (τ:=ren [(1,64),(2,576)]) (fun k:Int=>mkSt [(1,.p 0 0),(2,.p 1 0),(6,I (if k=0 then -1 else if k=1 then -1 else -1)),(7,.p 2 0),(16,I k)] [(0,.loc (arrD s0 t0 s1 t1)),(1,.loc jZ),(2,.loc (if k=0 then cZ else if k=1 then cZ else cZ))] 3)
   (fun k=>k=0\/k=1\/k=2) (fun k=>(2 - k).toNat) 0 (.inl rfl) (by refine Le.of (ν:=[]) (by kernel_rfl) ?_ ?_<;>((refine Lw qDJ41.1 ?_;try exact ⟨⟩);try rfl)) fun k hk=>?_
  rcases hk with rfl|rfl|rfl
  .simp only[if_true];refine Wk qDJ41.1 (An @hright (An @hread0 (An @hread1 (An @hlook0 (An @hlook1 @hcut))))) ?_;refine Cb ?_ ?_<;>intro hc<;>(try exact ⟨⟩)
   .refine Wk qDJ41.1 (An @hright (An @hread0 (An @hread1 (An @hlook0 (An @hlook1 @hcut))))) ?_;refine Cb ?_ ?_<;>intro hc<;>(try exact ⟨⟩)
    .first|omega|(simp at hc;done)|(simp at hc;omega)|contradiction
    .skip
     refine Wk qDJ41.1 (An @hright (An @hread0 (An @hread1 (An @hlook0 (An @hlook1 @hcut))))) ?_;refine Za (τ:=ren []) (ν:=[]) 1 (.inr (.inl rfl)) (by omega) (by refine Le.of (by kernel_rfl) ?_ ?_<;>((refine Lw qDJ41.1 ?_;try exact ⟨⟩);try rfl))
   .first|omega|contradiction|exact absurd trivial hc
  .simp only[Int.reduceEq,if_true,if_false];refine Wk qDJ41.1 (An @hright (An @hread0 (An @hread1 (An @hlook0 (An @hlook1 @hcut))))) ?_;refine Cb ?_ ?_<;>intro hc<;>(try exact ⟨⟩)
   .refine Wk qDJ41.1 (An @hright (An @hread0 (An @hread1 (An @hlook0 (An @hlook1 @hcut))))) ?_;refine Cb ?_ ?_<;>intro hc<;>(try exact ⟨⟩)
    .first|omega|(simp at hc;done)|(simp at hc;omega)|contradiction
    .skip
     refine Wk qDJ41.1 (An @hright (An @hread0 (An @hread1 (An @hlook0 (An @hlook1 @hcut))))) ?_;refine Za (τ:=ren []) (ν:=[]) 2 (.inr (.inr rfl)) (by omega) (by refine Le.of (by kernel_rfl) ?_ ?_<;>((refine Lw qDJ41.1 ?_;try exact ⟨⟩);try rfl))
   .first|omega|contradiction|exact absurd trivial hc
  .simp only[Int.reduceEq,if_false];refine Wk qDJ41.1 (An @hright (An @hread0 (An @hread1 (An @hlook0 (An @hlook1 @hcut))))) ?_;refine Cb ?_ ?_<;>intro hc<;>(try exact ⟨⟩)
   .first|omega|contradiction
   .refine Wk qDJ41.1 (An @hright (An @hread0 (An @hread1 (An @hlook0 (An @hlook1 @hcut))))) ?_;refine Cb ?_ ?_<;>intro hc<;>(try exact ⟨⟩)
    .skip
     refine Wk qDJ41.1 (An @hright (An @hread0 (An @hread1 (An @hlook0 (An @hlook1 @hcut))))) ?_;refine Cb ?_ ?_<;>intro hc<;>(try exact ⟨⟩)
     .first|omega|(simp at hc;done)|(simp at hc;omega)|contradiction
     .skip
      refine Wk qDJ41.1 (An @hright (An @hread0 (An @hread1 (An @hlook0 (An @hlook1 @hcut))))) ?_;refine Fn @results81 qDJ41.1 ?_;try exact ⟨⟩
    .first|omega|(simp at hc;done)|(simp at hc;omega)|contradiction
end ND
namespace ND
abbrev jE (A:List C) (e:Int):D:=.t [.a A,.c (.v (vI e))]
theorem addBad_c (s0 t0 s1 t1:List Int) (at_ gen:Int) (b:List Int) (h:okD s0 t0 s1 t1) (ha:at_=0\/at_=1) (hg:1<=gen) (hg2:gen<=4611686018427387904) (hb:b.length<1):ACall prog 34 [] [jD s0 t0 s1 t1 at_ gen,SB b] (jE (jA s0 t0 s1 t1 at_ gen) 1) []:=by
 have hd1:=h.1;have hd2:=h.2;have hmay:=may_c s0 t0 s1 t1 at_ gen h ha hg hg2;have hown:=ownJ_c s0 t0 s1 t1 at_ gen h;have hput:True:=trivial;have hdo:True:=trivial;refine Ac func34 ?_;refine Wk trivial (An @hmay (An @hown (An @hput @hdo))) ?_;refine Cb ?_ ?_<;>intro hc<;>(try exact ⟨⟩)
 .refine Wk trivial (An @hmay (An @hown (An @hput @hdo))) ?_;refine Fn @results34 trivial ?_;try exact ⟨⟩
 .omega
theorem add0_c (s0 t0 s1 t1:List Int) (gen:Int) (b:List Int) (h:okD s0 t0 s1 t1) (hg:1<=gen) (hg2:gen<=4611686018427387904) (hb:1<=b.length) (hb2:b.length<=4000) (hl:s0.length+t0.length+(6+b.length)<=65536):ACall prog 34 [] [jD s0 t0 s1 t1 0 gen,SB b] (jE (jA s0 (t0++put b) s1 t1 0 gen) 0) []:=by
 have hd1:=h.1;have hd2:=h.2;have hmay:=may_c s0 t0 s1 t1 0 gen h (by omega) hg hg2;have hown:True:=trivial;have hput:=put_c b (by omega) (by omega);have hpl:=put_len b;have hdo:=write0_c s0 t0 s1 t1 (put b) h (by omega);generalize put b=rec at *;refine Ac func34 ?_;refine Wk trivial (An @hmay (An @hown (An @hput @hdo))) ?_;refine Cb ?_ ?_<;>intro hc<;>(try exact ⟨⟩)
 .omega
 .refine Wk trivial (An @hmay (An @hown (An @hput @hdo))) ?_;refine Cb ?_ ?_<;>intro hc<;>(try exact ⟨⟩)
  .contradiction
  .refine Wk trivial (An @hmay (An @hown (An @hput @hdo))) ?_;refine Cb ?_ ?_<;>intro hc<;>(try exact ⟨⟩)
   .contradiction
   .refine Wk trivial (An @hmay (An @hown (An @hput @hdo))) ?_;refine Fn @results34 trivial ?_;try exact ⟨⟩
theorem addFull0_c (s0 t0 s1 t1:List Int) (gen:Int) (b:List Int) (h:okD s0 t0 s1 t1) (hg:1<=gen) (hg2:gen<=4611686018427387904) (hb:1<=b.length) (hb2:b.length<=4000) (hl:65536<s0.length+t0.length+(6+b.length)):ACall prog 34 [] [jD s0 t0 s1 t1 0 gen,SB b] (jE (jA s0 t0 s1 t1 0 gen) 5) []:=by
 have hd1:=h.1;have hd2:=h.2;have hmay:=may_c s0 t0 s1 t1 0 gen h (by omega) hg hg2;have hown:=ownJ_c s0 t0 s1 t1 0 gen h;have hput:=put_c b (by omega) (by omega);have hpl:=put_len b;have hdo:=writex0_c s0 t0 s1 t1 (put b) h (by omega) (by omega);generalize put b=rec at *;refine Ac func34 ?_;refine Wk trivial (An @hmay (An @hown (An @hput @hdo))) ?_;refine Cb ?_ ?_<;>intro hc<;>(try exact ⟨⟩)
 .omega
 .refine Wk trivial (An @hmay (An @hown (An @hput @hdo))) ?_;refine Cb ?_ ?_<;>intro hc<;>(try exact ⟨⟩)
  .contradiction
  .refine Wk trivial (An @hmay (An @hown (An @hput @hdo))) ?_;refine Cb ?_ ?_<;>intro hc<;>(try exact ⟨⟩)
   .refine Wk trivial (An @hmay (An @hown (An @hput @hdo))) ?_;refine Fn @results34 trivial ?_;try exact ⟨⟩
   .contradiction
end ND
structure Kee where
 cnt:Int
 pat:Int
 s0:List Int
 t0:List Int
 s1:List Int
 t1:List Int
 gen:Int
structure keeP (k:Kee):Prop where
 h0:k.s0.length+k.t0.length<=65536
 h1:k.s1.length+k.t1.length<=65536
 gen:1<=k.gen/\k.gen<=4611686018427387904
abbrev keC (k:Kee) (g:Gat):List C:=[.v (vI k.cnt),.v (vI k.pat),.v (sB k.s0),.v (sB k.t0),.v (sB k.s1),.v (sB k.t1),.v (vI 0),.v (vI k.gen),.v (.s 8 (vR g.vens)),.v (.s 6 (NA.lR g.lims)),.v (vB g.kill),.v (vI g.now),.v (vI g.pat)]
abbrev keD (k:Kee) (g:Gat):D:=.e (.a (keC k g))
abbrev keO (k:Kee) (g:Gat) (r:Nat):List C:=[.v (vI k.cnt),.v (vI k.pat),.v (sB k.s0),.v (sB k.t0),.v (sB k.s1),.v (sB k.t1),.v (vI 0),.v (vI k.gen),.o r g.vens.length,.v (.s 6 (NA.lR g.lims)),.v (vB g.kill),.v (vI g.now),.v (vI g.pat)]
abbrev kzC:List C:=[.v (vI 0),.v (vI 0),.v (.x (.slice none 0 0)),.v (.x (.slice none 0 0)),.v (.x (.slice none 0 0)),.v (.x (.slice none 0 0)),.v (vI 0),.v (vI 0),.v (.x (.slice none 0 0)),.v (.x (.slice none 0 0)),.v (vB false),.v (vI 0),.v (vI 0)]
def qKC1:=PLift.up (An @Yp (An @Zj @among2))
theorem kclone_c (k:Kee) (g:Gat) (hk:keeP k) (h:gatP g):ACall prog 31 [] [keD k g] (keD k g) []:=by
 have hn:=h.n;have hll:=h.lims.1;have hj0:=hk.h0;have hj1:=hk.h1;have hclv:=cloneV_c g.vens (by omega);have hcl5:=NA.clone_c g.lims (by omega);refine Ac func31 ?_;refine Wk qKC1.1 (An @hclv (An @hcl5 @ND.clone_c)) ?_
 refine AWp.loop (fun s:Int=>mkSt [(1,.p 0 0),(2,.p 1 0),(7,I s)] [(0,.loc (keC k g)),(1,.loc kzC)] 2)
  (fun s=>s=0\/s=1\/s=2) (fun s=>(2 - s).toNat) 0 (.inl rfl) (by refine Le.of (τ:=[(1,64)]) (ν:=[]) (by kernel_rfl) ?_ ?_<;>((refine Lw qKC1.1 ?_;try exact ⟨⟩);try (first|omega|rfl|exact ⟨rfl,rfl⟩))) fun s hs=>?_
 rcases hs with rfl|rfl|rfl
 .refine Wk qKC1.1 (An @hclv (An @hcl5 @ND.clone_c)) ?_;refine Cb ?_ ?_<;>intro hc<;>(try exact ⟨⟩)
  .refine Wk qKC1.1 (An @hclv (An @hcl5 @ND.clone_c)) ?_;refine Za (1:Int) (.inr (.inl rfl)) (by omega) (by refine Le.of (τ:=[]) (ν:=[]) (by kernel_rfl) ?_ ?_<;>((refine Lw qKC1.1 ?_;try exact ⟨⟩);try omega))
  .omega
 .refine Wk qKC1.1 (An @hclv (An @hcl5 @ND.clone_c)) ?_;refine Cb ?_ ?_<;>intro hc<;>(try exact ⟨⟩)
  .refine Wk qKC1.1 (An @hclv (An @hcl5 @ND.clone_c)) ?_;refine Za (2:Int) (.inr (.inr rfl)) (by omega) (by refine Le.of (τ:=[]) (ν:=[]) (by kernel_rfl) ?_ ?_<;>((refine Lw qKC1.1 ?_;try exact ⟨⟩);try omega))
  .omega
 .refine Wk qKC1.1 (An @hclv (An @hcl5 @ND.clone_c)) ?_;refine Cb ?_ ?_<;>intro hc<;>(try exact ⟨⟩)
  .omega
  .refine Wk qKC1.1 (An @hclv (An @hcl5 @ND.clone_c)) ?_
   refine AWp.loop (fun i:Nat=>mkSt [(1,.p 0 0),(2,.p 1 0),(41,I g.vens.length),(42,I i)] [(0,.loc (keO k g 2)),(1,.loc kzC),(2,.row 8 (vR g.vens))] 3)
    (fun i=>i<=g.vens.length) (fun i=>g.vens.length - i) 0 (Nat.zero_le _) (by refine Le.of (τ:=[(2,258)]) (ν:=[]) (by kernel_rfl) ?_ ?_<;>((refine Lw qKC1.1 ?_;try exact ⟨⟩);try (first|omega|rfl|exact ⟨rfl,rfl⟩))) fun i hi=>?_
   refine Wk qKC1.1 (An @hclv (An @hcl5 @ND.clone_c)) ?_;refine Cb ?_ ?_<;>intro hc<;>(try exact ⟨⟩)
   .have hil:i<g.vens.length:=by omega
    have hp:=h.vens _ (Yf hil);have hroom:=hp.room;have hfl:=hp.bk.fl;have hidl:=hp.bk.il;have hcl1:=NO.clone_c (g.vens.getD i default).bk.ords (by omega);have hcl2:=cloneF_c (g.vens.getD i default).bk.fills (by omega);have hcl3:=cloneS_c (g.vens.getD i default).bk.ids (by omega);have hcl4:=NO.clone_c (g.vens.getD i default).sent (by omega);have hb1:(vR g.vens).set i (NO.osV (g.vens.getD i default).bk.ords::List.drop 1 ((vR g.vens).getD i []))=vR g.vens:=Z6 _ _ hil _ (by rw[Zu _ _ hil];rfl);have hb2:(vR g.vens).set i (List.take 1 ((vR g.vens).getD i [])++[fsV (g.vens.getD i default).bk.fills]++List.drop 2 ((vR g.vens).getD i []))=vR g.vens:=Z6 _ _ hil _ (by rw[Zu _ _ hil];rfl);have hb3:(vR g.vens).set i (List.take 2 ((vR g.vens).getD i [])++[ssV (g.vens.getD i default).bk.ids]++List.drop 3 ((vR g.vens).getD i []))=vR g.vens:=Z6 _ _ hil _ (by rw[Zu _ _ hil];rfl);have hb4:(vR g.vens).set i (List.take 5 ((vR g.vens).getD i [])++[NO.osV (g.vens.getD i default).sent]++List.drop 6 ((vR g.vens).getD i []))=vR g.vens:=Z6 _ _ hil _ (by rw[Zu _ _ hil];rfl);refine Wk (An @hb1 (An @hb2 (An @hb3 (An @hb4 qKC1.1)))) (An @hclv (An @hcl1 (An @hcl2 (An @hcl3 (An @hcl4 (An @hcl5 @ND.clone_c)))))) ?_;refine Za (i+1) (show i+1<=g.vens.length by omega) (by omega) (by refine Le.of (τ:=[]) (ν:=[]) (by kernel_rfl) ?_ ?_<;>((refine Lw (An @hb1 (An @hb2 (An @hb3 (An @hb4 qKC1.1)))) ?_;try exact ⟨⟩);try omega))
   .refine Wk qKC1.1 (An @hclv (An @hcl5 @ND.clone_c)) ?_;refine Fn @results31 qKC1.1 ?_;try exact ⟨⟩
theorem by_int (l:List UInt8):ND.rB (bytI l)=byR l:=by simp[bytI]
noncomputable def addK (k:Kee) (b:List UInt8):Kee×Int :=
 if 1<=b.length then (if k.s0.length+k.t0.length+(6+b.length)<=65536 then ({ k with t0:=k.t0++ND.put (bytI b) },0) else (k,5)) else (k,1)
theorem jadd_c (k:Kee) (hk:keeP k) (b:List UInt8) (hb:b.length<=4000) (r:Kee×Int) (hr:addK k b=r) :
 ACall prog 34 [] [ND.jD k.s0 k.t0 k.s1 k.t1 0 k.gen,byD b] (ND.jE (ND.jA r.1.s0 r.1.t0 r.1.s1 r.1.t1 0 r.1.gen) r.2) []:=by
 have hl:(bytI b).length=b.length:=by simp[bytI]
 show ACall prog 34 [] [_,.e (.c (.v (.s 1 (byR b))))] _ [];rw[<-by_int b];subst hr;unfold addK
 split
 .split
  .exact ND.add0_c k.s0 k.t0 k.s1 k.t1 k.gen (bytI b) ⟨hk.h0,hk.h1⟩ hk.gen.1 hk.gen.2 (by omega) (by omega) (by omega)
  .exact ND.addFull0_c k.s0 k.t0 k.s1 k.t1 k.gen (bytI b) ⟨hk.h0,hk.h1⟩ hk.gen.1 hk.gen.2 (by omega) (by omega) (by omega)
 .exact ND.addBad_c k.s0 k.t0 k.s1 k.t1 0 k.gen (bytI b) ⟨hk.h0,hk.h1⟩ (.inl rfl) hk.gen.1 hk.gen.2 (by omega)
theorem addK_right {k:Kee} {b:List UInt8} (hk:keeP k):keeP (addK k b).1:=by
 unfold addK
 split
 .split
  .refine ⟨?_,hk.h1,hk.gen⟩;have:=ND.put_len (bytI b);have hl:(bytI b).length=b.length:=by simp[bytI]
   show k.s0.length+(k.t0++ND.put (bytI b)).length<=65536;rw[List.length_append];omega
  .exact hk
 .exact hk
theorem addK_pat {k:Kee} {b:List UInt8}:(addK k b).1.cnt=k.cnt/\(addK k b).1.pat=k.pat:=by
 unfold addK
 split
 .split<;>exact ⟨rfl,rfl⟩
 .exact ⟨rfl,rfl⟩
noncomputable def doK (k:Kee) (g:Gat) (a:Ask):(Kee×Gat)×Int×Int :=
 if (putK a).2≠0 then ((k,g),0,(putK a).2)
 else if (askG g a).2.2≠0 then ((k,g),0,(askG g a).2.2)
 else if (addK k (putK a).1).2≠0 then ((k,g),0,(addK k (putK a).1).2)
 else (((addK k (putK a).1).1,(askG g a).1),(askG g a).2.1,0)
theorem doK_right {k:Kee} {g:Gat} {a:Ask} (hk:keeP k) (h:gatP g):keeP (doK k g a).1.1/\gatP (doK k g a).1.2:=by
 unfold doK
 split
 .exact ⟨hk,h⟩
 .split
  .exact ⟨hk,h⟩
  .split
   .exact ⟨hk,h⟩
   .exact ⟨addK_right hk,ask_right h⟩
theorem putK_len (a:Ask):(putK a).1.length<=4000:=by
 unfold putK
 split
 .split
  .have h1:=fieldsK_len a;show (putF (fieldsK a)).1.length<=_;unfold putF
   split
   .rename_i h;have:=encL_len _ h.2;show (encL (fieldsK a)).length<=_;omega
   .exact Nat.zero_le _
  .exact Nat.zero_le _
 .exact Nat.zero_le _
theorem do_c (k:Kee) (g:Gat) (a:Ask) (hk:keeP k) (h:gatP g) (r:(Kee×Gat)×Int×Int) (hr:doK k g a=r) :
 ACall prog 8 [] [keD k g,aD a] (.t [.a (keC r.1.1 r.1.2),.c (.v (vI r.2.1)),.c (.v (vI r.2.2))]) []:=by
 have hclone:=kclone_c k g hk h;have hput:=kput_c a _ rfl;have hask:=ask_c g a h _ rfl;have hadd:=jadd_c k hk (putK a).1 (putK_len a) _ rfl;unfold doK at hr;have hpat:=addK_pat (k:=k) (b:=(putK a).1)
 generalize putK a=p at hput hadd hr hpat
 generalize askG g a=q at hask hr;generalize addK k p.1=z at hadd hr hpat
 obtain ⟨bs,e⟩:=p;obtain ⟨g1,kd,e1⟩:=q;obtain ⟨⟨cnt,pat,s0,t0,s1,t1,gen⟩,e2⟩:=z;dsimp only at hput hask hadd hr hpat
 obtain ⟨rfl,rfl⟩:=hpat
 refine Ac func8 ?_;refine Wk trivial (An @hclone (An @hput (An @hask @hadd))) ?_;refine Cb ?_ ?_<;>intro hc<;>(try exact ⟨⟩)
 .rw[if_pos hc]at hr;subst hr;refine Wk trivial (An @hclone (An @hput (An @hask @hadd))) ?_;refine Fn @results8 trivial ?_;try exact ⟨⟩
 .rw[if_neg (by omega)]at hr;refine Wk trivial (An @hclone (An @hput (An @hask @hadd))) ?_;refine Cb ?_ ?_<;>intro hc<;>(try exact ⟨⟩)
  .rw[if_pos hc]at hr;subst hr;refine Wk trivial (An @hclone (An @hput (An @hask @hadd))) ?_;refine Fn @results8 trivial ?_;try exact ⟨⟩
  .rw[if_neg (by omega)]at hr;refine Wk trivial (An @hclone (An @hput (An @hask @hadd))) ?_;refine Cb ?_ ?_<;>intro hc<;>(try exact ⟨⟩)
   .rw[if_pos hc]at hr;subst hr;refine Wk trivial (An @hclone (An @hput (An @hask @hadd))) ?_;refine Fn @results8 trivial ?_;try exact ⟨⟩
   .rw[if_neg (by omega)]at hr;subst hr;refine Wk trivial (An @hclone (An @hput (An @hask @hadd))) ?_;refine Fn @results8 trivial ?_;try exact ⟨⟩
namespace ND
theorem all_nil:all []=([],0):=all_no (n:=0) (e:=2) (r:=[]) (by rfl) (by decide)
end ND
def newG (n:Nat) (p:Int):Gat:=⟨List.replicate n default,[],false,0,p⟩
theorem right_nil:NO.rightB ([]:List Ord)=true:=NO.Zq.2 ⟨by decide,by simp[NO.rightP]⟩
theorem newG_right {n:Nat} {p:Int} (h1:1<=n) (h4:n<=4) (hp:timeP p):gatP (newG n p):=by
 refine ⟨by simp[newG];omega,⟨by simp[newG],?_⟩,⟨Int.le_refl _,by show (0:Int)<=_;omega⟩,hp,fun v hv=>?_⟩
 .intro i hi;exact absurd hi (Nat.not_lt_zero _)
 .have e:v=default:=(List.mem_replicate.1 hv).2;subst e;refine ⟨⟨right_nil,by decide,by decide,by decide,by decide,List.nodup_nil,fun f hf=>absurd hf List.not_mem_nil,List.nodup_nil⟩,right_nil,by decide,⟨Int.le_refl _,Int.le_refl _⟩,fun o ho=>absurd ho List.not_mem_nil⟩
def zVen:List V:=[.x (.slice none 0 0),.x (.slice none 0 0),.x (.slice none 0 0),vI 0,vI 0,.x (.slice none 0 0),vI 0,vB false]
theorem zrows_le (n:Nat) (i:Nat) (r':List V) (j:Nat) (v':V) (h1:(vR (newG n 0).vens)[i]?=some r') (h2:r'[j]?=some v'):∃r0 v,(List.replicate n zVen)[i]?=some r0/\r0[j]?=some v/\VLe v' v:=by
 rw[List.getElem?_map]at h1
 have hi:i<n:=by
  cases h:(newG n 0).vens[i]? with
  | none=>rw[h]at h1;cases h1
  | some v=>have:=(List.getElem?_eq_some_iff.1 h).1;simpa[newG] using this
 have e:(newG n 0).vens[i]?=some default:=by simp[newG,List.getElem?_replicate,hi]
 rw[e]at h1;cases h1;refine ⟨zVen,?_⟩;rw[List.getElem?_replicate,if_pos hi]
 match j,h2 with
 | 0,h2=>cases h2;exact ⟨_,rfl,rfl,rfl,rfl⟩
 | 1,h2=>cases h2;exact ⟨_,rfl,rfl,rfl,rfl⟩
 | 2,h2=>cases h2;exact ⟨_,rfl,rfl,rfl,rfl⟩
 | 3,h2=>cases h2;exact ⟨_,rfl,rfl,rfl⟩
 | 4,h2=>cases h2;exact ⟨_,rfl,rfl,rfl⟩
 | 5,h2=>cases h2;exact ⟨_,rfl,rfl,rfl,rfl⟩
 | 6,h2=>cases h2;exact ⟨_,rfl,rfl,rfl⟩
 | 7,h2=>cases h2;exact ⟨_,rfl,rfl,rfl⟩
 | n+8,h2=>simp at h2
theorem gnew_c (n:Nat) (p:Int) (h1:1<=n) (h4:n<=4) (hp:timeP p):ACall prog 23 [] [I n,I p] (.t [.a (gtC (newG n p)),.c (.v (vI 0))]) []:=by
 have ht:=isTime_c p hp;refine Ac func23 ?_;refine Wk trivial @ht ?_;refine Cb ?_ ?_<;>intro hc<;>(try exact ⟨⟩)
 .omega
 ·(repeat (first|refine AWp.seq ?_|refine AWp.block ?_|refine AWp.skip ?_));(first|refine AWp.text (own:=nO) tG_ok (by kernel_rfl) (fun K hK=>?_)|refine AWp.draw (own:=nO) tG_ok mixed (by kernel_rfl) (by kernel_rfl) (fun K hK=>?_));(repeat' (revert hK;intro hK;first|(with_reducible refine hK _ _ _ ?_;clear hK K)|(with_reducible refine hK _ _ _ ?_ ?_;(focus kernel_rfl);clear hK K)|((with_reducible change CallS _ _ _ _ _ _);(first|refine CallS.of ht ?_))|(with_reducible refine And.intro ?_ ?_)|(simp (disch:=omega) only[↓reduceIte,Zo,backT,pos,idsB,idsC,nodup,live,makeSliceE,viewE,viewFE,appendUE,appendFE,capFE,copyE,copySrc,clearE,guardB,isNilOp,nilS,withTy,splice,lenE,appendE,sliceE,boundE,indexAddrE,indexE,buildE,fillE,buildSliceE,partsE,builtinE,minE,minI,convE,convHE,appendNE,capE,D.x,id_eq,eq_self,if_true,if_false,ne_eq,implies_true,Nat.reduceAdd,Nat.reduceMul,Nat.reduceSub,Nat.reduceEqDiff,Nat.reduceLT,Nat.reduceLeDiff,reduceCtorEq,Zp,forall_const,Nat.reduceBEq,Int.reduceEq,Int.reduceToNat,bne_self_eq_false,true_and,tyAll])|(first|omega|(intro hq;(try simp only[Zf,ne_eq,Bool.not_not,Bool.and_true]at hq);first|omega|assumption|(simp_all;done))|(simp_all;done))|(intro (bn:Bool) hbn)))
  change AWp _ _ _ _ _ _;refine AWp.le (st2:=mkSt [(4,.p 0 0),(5,I 0)] [(0,.loc [.o 1 n,.v (.x (.slice none 0 0)),.v (vB false),.v (vI 0),.v (vI p)]),(1,.row 8 (List.replicate n zVen))] 2) (by refine Le.of (τ:=[(1,896)]) (ν:=[]) (by kernel_rfl) ?_ ?_<;>((refine Lw trivial ?_;try exact ⟨⟩);try (first|omega|rfl|exact ⟨rfl,rfl⟩))) ?_;refine AWp.rows (r:=1) (k:=8) (rows:=List.replicate n zVen) (by rfl) (vR (newG n 0).vens) (by simp[newG]) (fun r' h=>by obtain ⟨v,_,rfl⟩:=List.mem_map.1 h;rfl) (zrows_le n) ?_;refine Wk trivial @ht ?_;refine Fn @results23 trivial ?_;try exact ⟨⟩
  exact ⟨⟨(List.take_of_length_le (by simp[newG])).symm,by simp[newG]⟩,rfl,rfl,rfl,rfl⟩
def newE (n:Nat) (p:Int):Kee:=⟨n,p,ND.put (ND.first 1 []),[],[],[],1⟩
theorem newE_right (n:Nat) (p:Int):keeP (newE n p):=by
 refine ⟨?_,by show (0:Nat)+0<=_;omega,by show (1:Int)<=1/\(1:Int)<=_;omega⟩;have h:=ND.put_len (ND.first 1 []);have h2:=ND.first_len 1 [];show (ND.put (ND.first 1 [])).length+0<=_;rw[h,h2];decide
abbrev zDisk:D:=.e (.a [.v (.x (.slice none 0 0)),.v (.x (.slice none 0 0)),.v (.x (.slice none 0 0)),.v (.x (.slice none 0 0))])
theorem look_nil:ND.lookF ([]++[])=none:=by
 unfold ND.lookF;rw[List.append_nil,ND.all_nil]
theorem byt_nil:ND.Byt ([]++[]):=fun j=>by simp
theorem raise_c (n:Nat) (p:Int) (h1:1<=n) (h4:n<=4) (hp:timeP p):ACall prog 30 [] [I n,I p,zDisk] (.t [.a (keC (newE n p) (newG n p)),.c (.v (vI 0))]) []:=by
 have hg:=gnew_c n p h1 h4 hp;have ho:=(ND.openN_c [] [] [] [] look_nil look_nil byt_nil byt_nil ⟨by decide,by decide⟩).args (bs:=[zDisk]) (by simp only[q_P,q_VLe,q_cells,List.map_nil,and_self,and_true,true_and,eq_self]);refine Ac func30 ?_;refine Wk trivial (An @hg @ho) ?_;refine Cb ?_ ?_<;>intro hc<;>(try exact ⟨⟩)
 .contradiction
 .refine Wk trivial (An @hg @ho) ?_;refine Cb ?_ ?_<;>intro hc<;>(try exact ⟨⟩)
  .contradiction
  .refine Wk trivial (An @hg @ho) ?_
   refine AWp.loop (fun _:Nat=>mkSt [(0,I n),(1,I p),(6,.p 1 0),(8,.p 2 0),(10,.p 3 0),(40,.e (.c (.v (.s 1 [])))),(41,I 0),(42,I 0)]
    [(0,.loc [.v (.x (.slice none 0 0)),.v (.x (.slice none 0 0)),.v (.x (.slice none 0 0)),.v (.x (.slice none 0 0))]),(1,.loc kzC),(2,.loc (gtC (newG n p))),(3,.loc (ND.jA (ND.put (ND.first 1 [])) [] [] [] 0 1))] 4)
    (fun k=>k=0) (fun _=>0) 0 rfl (by refine Le.of (τ:=[(1,64),(2,576),(3,1344)]) (ν:=[]) (by kernel_rfl) ?_ ?_<;>((refine Lw trivial ?_;try exact ⟨⟩);try (first|omega|rfl|exact ⟨rfl,rfl⟩))) fun k hk=>?_
   refine Wk trivial (An @hg @ho) ?_;refine Cb ?_ ?_<;>intro hc<;>(try exact ⟨⟩)
   .omega
   .refine Wk trivial (An @hg @ho) ?_;refine Fn @results30 trivial ?_;try exact ⟨⟩
    exact ⟨rfl,rfl,rfl,rfl,rfl,rfl,rfl⟩
theorem knew_c (n:Nat) (p:Int) (h1:1<=n) (h4:n<=4) (hp:timeP p):ACall prog 7 [] [I n,I p] (.t [.a (keC (newE n p) (newG n p)),.c (.v (vI 0))]) []:=by
 have hg:True:=trivial;have ho:=raise_c n p h1 h4 hp;refine Ac func7 ?_;refine Wk trivial (An @hg @ho) ?_;refine Fn @results7 trivial ?_;try exact ⟨⟩

def shO (o:Ord):Bool:=decide (o.id.size<=100) && (decide (o.acc.size<=100) && decide (o.sym.size<=100))
theorem short_c (l:List Ord) (hl:l.length<=80) (r:Bool) (hr:l.all shO=r):ACall prog 15 [] [NO.osD l] (B r) []:=by
 refine Ac func15 ?_;refine Wk @NO.Ze trivial ?_;refine Cb ?_ ?_<;>intro hc<;>(try exact ⟨⟩)
 .omega
 .refine Wk @NO.Ze trivial ?_;refine AWp.loop (fun i:Nat=>mkSt [(0,NO.osD l),(3,I i)] [] 0) (fun i=>i<=l.length/\∀j,j<i->shO (l.getD j default)=true) (fun i=>l.length - i) 0 ⟨Nat.zero_le _,fun j h=>by omega⟩ (by refine Le.of (τ:=[]) (ν:=[]) (by kernel_rfl) ?_ ?_<;>((refine Lw @NO.Ze ?_;try exact ⟨⟩);try rfl)) fun i hi=>?_;obtain ⟨hi,hall⟩:=hi;refine Wk @NO.Ze trivial ?_;refine Cb ?_ ?_<;>intro hc<;>(try exact ⟨⟩)
  .have hil:i<l.length:=by omega
   refine Wk @NO.Ze trivial ?_;refine Cb ?_ ?_<;>intro hc<;>(try exact ⟨⟩)
   .have e:r=false:=by
     rw[<-hr,List.all_eq_false];refine ⟨l.getD i default,?_,fun h=>?_⟩
     .rw[List.getD_eq_getElem?_getD,List.getElem?_eq_getElem hil];exact List.getElem_mem hil
     .simp only[shO,Bool.and_eq_true,decide_eq_true_eq]at h;omega
    subst e;refine Wk @NO.Ze trivial ?_;refine Fn @results15 @NO.Ze ?_;try exact ⟨⟩
   .refine Wk @NO.Ze trivial ?_;refine Za (i+1) ⟨show i+1<=l.length by omega,fun j h=>?_⟩ (by omega) (by refine Le.of (τ:=[]) (ν:=[]) (by kernel_rfl) ?_ ?_<;>((refine Lw @NO.Ze ?_;try exact ⟨⟩);try omega));rcases Nat.lt_or_eq_of_le (Nat.le_of_lt_succ h) with h|rfl
    .exact hall j h
    .simp only[shO,Bool.and_eq_true,decide_eq_true_eq];omega
  .have e:r=true:=by
    rw[<-hr,List.all_eq_true];intro x hx;obtain ⟨j,h,rfl⟩:=List.getElem_of_mem hx;have:=hall j (by omega)
    rwa [List.getD_eq_getElem?_getD,List.getElem?_eq_getElem h]at this
   subst e;refine Wk @NO.Ze trivial ?_;refine Fn @results15 @NO.Ze ?_;try exact ⟨⟩


instance :Inhabited Ask:=⟨⟨0,0,default,default,⟨⟨#[]⟩,⟨#[]⟩,⟨#[]⟩,⟨#[]⟩,⟨#[]⟩,0,false,0,0,0⟩,0,false,default⟩⟩
section
open Go.ChangeShapes Go.WideShapes Go.ChangeAt Go.RowKit
theorem own_none:ownKnob prog.godebug=none:=by kernel_rfl
theorem laid_out:laidOutB prog=true:=by kernel_rfl
theorem Z3 {P:Program} {off off':Nat} {t:TypeId} {fs:List (Nat×TypeId)} {A B:List V->Prop} (ho:off+P.cellsOf t=off') (h:Rd P t A) (hs:RdL P off' fs B):RdL P off ((off,t)::fs) fun vs=>∃a b,A a/\B b/\vs=a++b:=by
 subst ho;exact .cons h hs
theorem rd_i:Rd prog 2 fun vs=>∃n:Int,vs=[vI n]:=(rd_int (k:=.i64) (by kernel_rfl)).imp fun _ ⟨n,_,_,h⟩=>⟨n,h⟩
theorem rd_s:Rd prog 9 fun vs=>∃s:ByteArray,vs=[vS s]:=(rd_string (by kernel_rfl)).imp fun _ ⟨s,_,h⟩=>⟨s,h⟩
theorem rd_b:Rd prog 4 fun vs=>∃b:Bool,vs=[vB b]:=(rd_bool (by kernel_rfl))
theorem rd_lim:Rd prog 48 fun vs=>∃x:NA.Lim,vs=NA.lV x:=by
 refine (rd_structL (l:=[(0,9),(1,9),(2,2),(3,2),(4,2),(5,2)]) (by kernel_rfl) (by kernel_rfl)
  (Z3 (off':=1) (by kernel_rfl) rd_s (Z3 (off':=2) (by kernel_rfl) rd_s (Z3 (off':=3) (by kernel_rfl) rd_i (Z3 (off':=4) (by kernel_rfl) rd_i (Z3 (off':=5) (by kernel_rfl) rd_i (Z3 (off':=6) (by kernel_rfl) rd_i (RdL.nil _)))))))).imp ?_
 rintro vs ⟨_,_,⟨a,rfl⟩,⟨_,_,⟨b,rfl⟩,⟨_,_,⟨c,rfl⟩,⟨_,_,⟨d,rfl⟩,⟨_,_,⟨e,rfl⟩,⟨_,_,⟨f,rfl⟩,rfl,rfl⟩,rfl⟩,rfl⟩,rfl⟩,rfl⟩,rfl⟩;exact ⟨⟨a,b,c,d,e,f⟩,rfl⟩
theorem arg_lims:ArgRd prog 33 fun x=>∃l:List NA.Lim,x=NA.lsD l:=by
 refine (arg_one (ds:=.slice 48) (by kernel_rfl) rfl (rd_slice (e:=48) (by kernel_rfl) rd_lim) (fun vs ⟨n,_,_,h⟩=>by rw[h];rfl)).imp ?_;rintro x ⟨a,⟨rows,hr,_,h⟩,rfl⟩;obtain ⟨l,hl,rfl,_⟩:=rows_map (f:=NA.lV) (Q:=fun _=>True) (rows:=rows) fun r h=>let ⟨o,e⟩:=hr r h;⟨o,trivial,e⟩;simp only[List.cons.injEq,and_true]at h;exact ⟨l,by rw[h,show prog.cellsOf 48=6 by kernel_rfl]⟩
abbrev oVv (o:Ord):List V:=[V.x (.string o.id),V.x (.string o.acc),V.x (.string o.sym),V.x (.bool o.buy),V.x (.int .i64 o.qty),V.x (.int .i64 o.price),V.x (.int .i64 o.done),V.x (.bool o.op)]
theorem rd_ord:Rd prog 44 fun vs=>∃o:Ord,vs=oVv o:=by
 refine (rd_structL (l:=[(0,9),(1,9),(2,9),(3,4),(4,2),(5,2),(6,2),(7,4)]) (by kernel_rfl) (by kernel_rfl)
  (Z3 (off':=1) (by kernel_rfl) rd_s (Z3 (off':=2) (by kernel_rfl) rd_s (Z3 (off':=3) (by kernel_rfl) rd_s (Z3 (off':=4) (by kernel_rfl) rd_b (Z3 (off':=5) (by kernel_rfl) rd_i (Z3 (off':=6) (by kernel_rfl) rd_i (Z3 (off':=7) (by kernel_rfl) rd_i (Z3 (off':=8) (by kernel_rfl) rd_b (RdL.nil _)))))))))).imp ?_
 rintro vs ⟨_,_,⟨a,rfl⟩,⟨_,_,⟨b,rfl⟩,⟨_,_,⟨c,rfl⟩,⟨_,_,⟨d,rfl⟩,⟨_,_,⟨e,rfl⟩,⟨_,_,⟨f,rfl⟩,⟨_,_,⟨g,rfl⟩,⟨_,_,⟨h,rfl⟩,rfl,rfl⟩,rfl⟩,rfl⟩,rfl⟩,rfl⟩,rfl⟩,rfl⟩,rfl⟩;exact ⟨⟨a,b,c,d,e,f,g,h⟩,rfl⟩
end
noncomputable def ty83:Ty:=tA 83
theorem tl83:tG 83=some ty83 /\
 ty83.size=1 /\
 ty83.bytes=24 /\
 isAggD ty83.desc=false /\
 zeroC ty83=[.v (.x (.slice none 0 0))] /\
 zeroV ty83=[.x (.slice none 0 0)] /\
 ty83.desc=.slice 90:=by (repeat' refine And.intro ?_ ?_)<;>kernel_rfl
noncomputable def ty85:Ty:=tA 85
theorem tl85:tG 85=some ty85 /\
 ty85.size=1 /\
 ty85.bytes=8 /\
 isAggD ty85.desc=false /\
 zeroC ty85=[.v (.x (.pointer none))] /\
 zeroV ty85=[.x (.pointer none)] /\
 ty85.desc=.pointer 88:=by (repeat' refine And.intro ?_ ?_)<;>kernel_rfl
noncomputable def ty86:Ty:=tA 86
theorem tl86:tG 86=some ty86 /\
 ty86.size=1 /\
 ty86.bytes=24 /\
 isAggD ty86.desc=false /\
 zeroC ty86=[.v (.x (.slice none 0 0))] /\
 zeroV ty86=[.x (.slice none 0 0)] /\
 ty86.desc=.slice 46:=by (repeat' refine And.intro ?_ ?_)<;>kernel_rfl
noncomputable def ty88:Ty:=tA 88
theorem tl88:tG 88=some ty88 /\
 ty88.size=15 /\
 ty88.bytes=248 /\
 isAggD ty88.desc=true /\
 zeroC ty88=[.v (.x (.slice none 0 0)),.v (.x (.slice none 0 0)),.v (.x (.bool false)),.v (.x (.int .i64 0)),.v (.x (.int .i64 0)),.v (.x (.slice none 0 0)),.v (.x (.slice none 0 0)),.v (.x (.slice none 0 0)),.v (.x (.int .i64 0)),.v (.x (.int .i64 0)),.v (.x (.slice none 0 0)),.v (.x (.int .i64 0)),.v (.x (.int .i64 0)),.v (.x (.slice none 0 0)),.v (.x (.slice none 0 0))] /\
 zeroV ty88=[.x (.slice none 0 0),.x (.slice none 0 0),.x (.bool false),.x (.int .i64 0),.x (.int .i64 0),.x (.slice none 0 0),.x (.slice none 0 0),.x (.slice none 0 0),.x (.int .i64 0),.x (.int .i64 0),.x (.slice none 0 0),.x (.int .i64 0),.x (.int .i64 0),.x (.slice none 0 0),.x (.slice none 0 0)] /\
 buildOk tG ty88=true /\
 fieldInfo tG ty88 0=some (0,5,true) /\
 placeD tG ty88 0=some (0,5) /\
 fieldInfo tG ty88 1=some (5,5,true) /\
 placeD tG ty88 1=some (5,5) /\
 fieldInfo tG ty88 2=some (10,1,false) /\
 placeD tG ty88 2=some (10,1) /\
 fieldInfo tG ty88 3=some (11,1,false) /\
 placeD tG ty88 3=some (11,1) /\
 fieldInfo tG ty88 4=some (12,1,false) /\
 placeD tG ty88 4=some (12,1) /\
 fieldInfo tG ty88 5=some (13,1,false) /\
 placeD tG ty88 5=some (13,1) /\
 fieldInfo tG ty88 6=some (14,1,false) /\
 placeD tG ty88 6=some (14,1):=by (repeat' refine And.intro ?_ ?_)<;>kernel_rfl
noncomputable def ty90:Ty:=tA 90
theorem tl90:tG 90=some ty90 /\
 ty90.size=11 /\
 ty90.bytes=96 /\
 isAggD ty90.desc=true /\
 zeroC ty90=[.v (.x (.int .u8 0)),.v (.x (.int .u8 0)),.v (.x (.int .u8 0)),.v (.x (.string ⟨#[]⟩)),.v (.x (.string ⟨#[]⟩)),.v (.x (.string ⟨#[]⟩)),.v (.x (.bool false)),.v (.x (.int .i64 0)),.v (.x (.int .i64 0)),.v (.x (.int .i64 0)),.v (.x (.bool false))] /\
 zeroV ty90=[.x (.int .u8 0),.x (.int .u8 0),.x (.int .u8 0),.x (.string ⟨#[]⟩),.x (.string ⟨#[]⟩),.x (.string ⟨#[]⟩),.x (.bool false),.x (.int .i64 0),.x (.int .i64 0),.x (.int .i64 0),.x (.bool false)] /\
 buildOk tG ty90=true /\
 ty90.eqL=some [(0,1),(1,1),(2,1),(3,2),(4,2),(5,2),(6,0),(7,1),(8,1),(9,1),(10,0)] /\
 fieldInfo tG ty90 0=some (0,1,false) /\
 placeD tG ty90 0=some (0,1) /\
 fieldInfo tG ty90 1=some (1,1,false) /\
 placeD tG ty90 1=some (1,1) /\
 fieldInfo tG ty90 2=some (2,1,false) /\
 placeD tG ty90 2=some (2,1) /\
 fieldInfo tG ty90 3=some (3,8,true) /\
 placeD tG ty90 3=some (3,8):=by (repeat' refine And.intro ?_ ?_)<;>kernel_rfl
def leW (a b:Int×Int):Prop:=a.1<=b.1/\a.2<=b.2
theorem Zx (a:Int×Int):leW a a:=⟨Int.le_refl _,Int.le_refl _⟩
theorem leW_trans {a b c:Int×Int} (h:leW a b) (k:leW b c):leW a c:=⟨Int.le_trans h.1 k.1,Int.le_trans h.2 k.2⟩
theorem leW_add {a b c d:Int×Int} (h:leW a b) (k:leW c d):leW (addW a c) (addW b d):=by
 unfold leW addW at *;dsimp only;omega
theorem sw_le2 {α:Type} [Inhabited α] {f g:α->Int×Int}:∀ {l m:List α},l.length=m.length->(∀i,i<l.length->leW (f (l.getD i default)) (g (m.getD i default)))->leW (sumW (l.map f)) (sumW (m.map g))
 | [],[],_,_=>Zx _
 | a::l,b::m,h,k=>by
  rw[List.map_cons,List.map_cons,Yo,Yo];refine leW_add (by simpa using k 0 (by simp)) (sw_le2 (by simpa using h) fun i hi=>?_);simpa using k (i+1) (by simpa using hi)
theorem sw_le {α:Type} {f g:α->Int×Int}:∀ {l:List α},(∀o,o∈l->leW (f o) (g o))->leW (sumW (l.map f)) (sumW (l.map g))
 | [],_=>Zx _
 | a::l,k=>by
  rw[List.map_cons,List.map_cons,Yo,Yo];exact leW_add (k a (List.mem_cons_self ..)) (sw_le fun o ho=>k o (List.mem_cons_of_mem _ ho))
theorem sw_set {α:Type} [Inhabited α] (f:α->Int×Int):∀(l:List α) (i:Nat) (a:α),i<l.length->addW (sumW ((l.set i a).map f)) (f (l.getD i default))=addW (sumW (l.map f)) (f a)
 | b::l,0,a,_=>by
  simp only[List.set_cons_zero,List.map_cons,Yo,List.getD_cons_zero,addW,Prod.mk.injEq];omega
 | b::l,i+1,a,h=>by
  have ih:=sw_set f l i a (by simpa using h);simp only[List.set_cons_succ,List.map_cons,Yo,List.getD_cons_succ,addW,Prod.mk.injEq]at ih ⊢;omega
theorem sw_erase {α:Type} [Inhabited α] (f:α->Int×Int):∀(l:List α) (i:Nat),i<l.length->addW (sumW ((l.eraseIdx i).map f)) (f (l.getD i default))=sumW (l.map f)
 | b::l,0,_=>by
  simp only[List.eraseIdx_cons_zero,List.map_cons,Yo,List.getD_cons_zero,addW];ext<;>(dsimp only;omega)
 | b::l,i+1,h=>by
  have ih:=sw_erase f l i (by simpa using h);simp only[List.eraseIdx_cons_succ,List.map_cons,Yo,List.getD_cons_succ,addW,Prod.mk.injEq]at ih ⊢;rw[<-ih];constructor<;>(dsimp only;omega)
theorem sw_pos {α:Type} {f:α->Int×Int} {l:List α} (h:∀o,o∈l->leW (0,0) (f o)):leW (0,0) (sumW (l.map f)):=by
 induction l with
 | nil=>exact Zx _
 | cons a l ih =>
  rw[List.map_cons,Yo];have:=leW_add (h a (List.mem_cons_self ..)) (ih fun o ho=>h o (List.mem_cons_of_mem _ ho));simpa[addW] using this
theorem side_mono {b:Bool} {p q:Int} (h:p<=q):leW (sideW b p) (sideW b q):=by
 unfold sideW leW;cases b<;>(simp;try omega)
theorem side_pos {b:Bool} {q:Int} (h:0<=q):leW (0,0) (sideW b q):=by
 unfold sideW leW;cases b<;>(simp;try omega)
theorem side_neg {b:Bool} {q:Int} (h:0<=q):leW (sideW b (-q)) (0,0):=by
 unfold sideW leW;cases b<;>(simp;try omega)
theorem fil_late {b c:Bk} {a s:ByteArray} {f:Fil} (h:b.clock<=c.clock) (hq:0<=f.qty):leW (filW c a s f) (filW b a s f):=by
 unfold filW finB
 split
 .split
  .rename_i h1
   split
   .exact Zx _
   .have:=leW_add (Zx (sideW f.buy f.qty)) (side_neg (b:=!f.buy) hq)
    rwa [addW_0]at this
  .rename_i h1;rw[if_neg (by simp at h1 ⊢;omega)];exact Zx _
 .exact Zx _
theorem fil_pos {b:Bk} {a s:ByteArray} {f:Fil} (hq:0<=f.qty) (hc:b.clock - f.time<=10):leW (0,0) (filW b a s f):=by
 unfold filW finB
 split
 .rw[if_neg (by simp;omega)];exact side_pos hq
 .exact Zx _
theorem fils_late {b c:Bk} {a s:ByteArray} (hb:bkP b) (h:b.clock<=c.clock):leW (sumW (b.fills.map (filW c a s))) (sumW (b.fills.map (filW b a s))) :=
 sw_le fun f hf=>fil_late h (amt_rng (hb.fills f hf).1).1
theorem ord_pos (a s:ByteArray) (o:Ord):leW (0,0) (ordW a s o):=by
 unfold ordW
 split
 .exact side_pos (NO.leftI_le o).2.1
 .exact Zx _
noncomputable def addX (b:Bk) (x:Exe) (a s:ByteArray):Int×Int :=
 if x.kind=1 then (if hitW a s x.acc x.sym then sideW x.buy x.qty else (0,0))
 else if x.kind=4 then (if hitW a s x.acc x.sym then sideW x.buy (x.qty - (NO.findS b.ords x.ref).1.done) else (0,0))
 else (0,0)
theorem of_le {b c:Bk} {a s:ByteArray} {w:Int×Int} (h1:leW (sumW (c.fills.map (filW c a s))) (sumW (b.fills.map (filW b a s)))) (h2:leW (sumW (c.ords.map (ordW a s))) (addW (sumW (b.ords.map (ordW a s))) w)):leW (ofW c a s) (addW (ofW b a s) w):=by
 have:=leW_add h1 h2;unfold ofW leW addW at *;dsimp only at *;omega
theorem left_le {o:Ord} (h:0<=o.qty - o.done):NO.leftI o<=o.qty - o.done:=by
 unfold NO.leftI;split<;>omega
theorem open_at {l:List Ord} {id:ByteArray} (h:¬NO.openI l id<0):(NO.openI l id).toNat<l.length:=by
 have:=NO.openI_lt l id;omega
theorem apply_of {b:Bk} {x:Exe} {a s:ByteArray} (hb:bkP b) (hx:exP x) (h0:(applyS b x).2=0):leW (ofW { (applyS b x).1 with clock:=x.time } a s) (addW (ofW b a s) (addX b x a s)):=by
 have ht:b.clock<=x.time:=(apply_keep hb hx).time h0;have hq:=amt_rng hx.qty;have hl:∀l:List Ord,leW (sumW (b.fills.map (filW { b with ords:=l,clock:=x.time } a s))) (sumW (b.fills.map (filW b a s))):=fun l=>fils_late hb ht;unfold applyS at h0 ⊢;unfold addX;rw[if_neg (by omega)]at h0 ⊢;by_cases k1:x.kind=1
 .rw[if_pos k1]at h0 ⊢;rw[if_pos k1];by_cases hn:(NO.newS b.ords (nwX x)).2=0
  .rw[if_pos hn];refine of_le (hl _) ?_
   have e:(NO.newS b.ords (nwX x)).1=b.ords++[NO.nwO (nwX x)]:=by
    unfold NO.newS at hn ⊢
    split
    .rename_i hc;rw[if_pos hc]at hn;cases hn
    .rename_i hc;rw[if_neg hc]at hn
     split
     .rename_i hc2;rw[if_pos hc2]at hn;cases hn
     .rename_i hc2;rw[if_neg hc2]at hn
      split
      .rename_i hc3;rw[if_pos hc3]at hn;cases hn
      .rfl
   show leW (sumW ((NO.newS b.ords (nwX x)).1.map _)) _;rw[e,List.map_append,sumW_app];refine leW_add (Zx _) ?_;rw[List.map_singleton,show ∀w,sumW [w]=w from fun w=>by simp[sumW,addW]];unfold ordW;show leW (if hitW a s x.acc x.sym then sideW x.buy (NO.leftI (NO.nwO (nwX x))) else (0,0)) _
   split
   .exact side_mono (by have:=left_le (o:=NO.nwO (nwX x)) (by show 0<=x.qty - 0;omega);have e:(NO.nwO (nwX x)).qty - (NO.nwO (nwX x)).done=x.qty - 0:=rfl;omega)
   .exact Zx _
  .rw[if_neg hn]at h0;cases h0
 .rw[if_neg k1]at h0 ⊢;rw[if_neg k1];by_cases k78:x.kind=7\/x.kind=8
  .rw[if_pos k78]at h0 ⊢;rw[if_neg (by omega)];have hlt:=(fstI_lt (fun f:Fil=>eqB f.id x.ref) b.fills).2
   have go:∀g:Fil,0<=refI b.fills x->leW (filW { b with clock:=x.time } a s g) (filW b a s (b.fills.getD (refI b.fills x).toNat default)) ->
    leW (ofW { b with fills:=b.fills.set (refI b.fills x).toNat g,clock:=x.time } a s) (addW (ofW b a s) (0,0)):=fun g hr hg=>by
    refine of_le ?_ (by rw[addW_0];exact Zx _);have hlt:refI b.fills x<b.fills.length:=hlt;have hi:(refI b.fills x).toNat<b.fills.length:=by omega
    show leW (sumW ((b.fills.set _ g).map (filW { b with clock:=x.time } a s))) _;refine sw_le2 (by simp) fun i hi2=>?_;rw[List.length_set]at hi2;by_cases e:(refI b.fills x).toNat=i
    .subst e;have e2:(b.fills.set (refI b.fills x).toNat g).getD (refI b.fills x).toNat default=g:=by simp[List.getD_eq_getElem?_getD,hi]
     rw[e2];exact hg
    .have e2:(b.fills.set (refI b.fills x).toNat g).getD i default=b.fills.getD i default:=by simp[List.getD_eq_getElem?_getD,List.getElem?_set_ne e]
     rw[e2];exact fil_late ht (amt_rng (hb.fills _ (Yr hi2)).1).1
   unfold bamendS at h0 ⊢
   split
   .rename_i hc;rw[if_pos hc]at h0;cases h0
   rename_i hc1;rw[if_neg hc1]at h0;have hlt:refI b.fills x<b.fills.length:=hlt;have hfm:=hb.fills _ (Yr (show (refI b.fills x).toNat<b.fills.length by omega));have hfq:=amt_rng hfm.1
   split
   .rename_i hc;rw[if_pos hc]at h0;cases h0
   rename_i hc2;rw[if_neg hc2]at h0
   split
   .rename_i hc;rw[if_pos hc]at h0;cases h0
   rename_i hc3;rw[if_neg hc3]at h0
   split
   .refine go _ (by omega) ?_;have:filW { b with clock:=x.time } a s { (b.fills.getD (refI b.fills x).toNat default) with lv:=false }=(0,0):=by unfold filW;rfl
    rw[this];exact fil_pos hfq.1 (by omega)
   rename_i hc4;rw[if_neg hc4]at h0
   split
   .rename_i hc;rw[if_pos hc]at h0;cases h0
   rename_i hc5;rw[if_neg hc5]at h0
   split
   .rename_i hc;rw[if_pos hc]at h0;cases h0
   refine go _ (by omega) ?_;unfold filW finB;dsimp only
   split
   .rw[if_neg (by simp only[decide_eq_true_eq];omega),if_neg (by simp only[decide_eq_true_eq];omega)];exact side_mono (by omega)
   .exact Zx _
  .rw[if_neg k78]at h0 ⊢;by_cases hf:(NO.findS b.ords (if x.kind=4 then x.ref else x.ord)).2=false\/(NO.findS b.ords (if x.kind=4 then x.ref else x.ord)).1.op=false
   .rw[if_pos hf]at h0;cases h0
   rw[if_neg hf]at h0 ⊢;by_cases hd:difO (NO.findS b.ords (if x.kind=4 then x.ref else x.ord)).1 x
   .rw[if_pos hd]at h0;cases h0
   rw[if_neg hd]at h0 ⊢
   have hh:hitW a s (NO.findS b.ords (if x.kind=4 then x.ref else x.ord)).1.acc (NO.findS b.ords (if x.kind=4 then x.ref else x.ord)).1.sym=hitW a s x.acc x.sym/\(NO.findS b.ords (if x.kind=4 then x.ref else x.ord)).1.buy=x.buy:=by
    simp only[difO,not_or,Classical.not_not]at hd;exact ⟨by unfold hitW;rw[hd.1,hd.2.1],hd.2.2⟩
   clear hd;by_cases k2:x.kind=2
   .rw[if_pos k2]at h0 ⊢;rw[if_neg (by omega)];rw[if_neg (by omega)]at hf hh;unfold bfillS at h0 ⊢
    split
    .rename_i hn;have hr:=hb.ords;unfold NO.fillS at hn;rw[if_neg (by simp[hr])]at hn;by_cases c2:NO.openI b.ords x.ord<0
     .rw[if_pos c2]at hn;cases hn
     rw[if_neg c2]at hn;by_cases c3:x.qty<1\/NO.leftI (b.ords.getD (NO.openI b.ords x.ord).toNat default)<x.qty
     .rw[if_pos c3]at hn;cases hn
     rw[if_neg c3]at hn;by_cases c4:NO.fairB (b.ords.getD (NO.openI b.ords x.ord).toNat default) x.price=false
     .rw[if_pos c4]at hn;cases hn
     have e:(NO.fillS b.ords x.ord x.qty x.price).1=b.ords.set (NO.openI b.ords x.ord).toNat (NO.flO (b.ords.getD (NO.openI b.ords x.ord).toNat default) x.qty):=by
      unfold NO.fillS;rw[if_neg (by simp[hr]),if_neg c2,if_neg c3,if_neg c4]
     obtain ⟨o1,o2,o3⟩:=NO.openI_spec c2
     have ef:(NO.findS b.ords x.ord).1=b.ords.getD (NO.openI b.ords x.ord).toNat default:=by
      unfold NO.findS;rw[if_pos ⟨hr,o2⟩,o1]
     rw[ef]at hh;show leW (addW (sumW ((b.fills++[filX x]).map (filW { b with clock:=x.time } a s))) (sumW ((NO.fillS b.ords x.ord x.qty x.price).1.map (ordW a s)))) _;rw[e,addW_0,List.map_append,sumW_app,List.map_singleton,show ∀w,sumW [w]=w from fun w=>by simp[sumW,addW]];have hs:=sw_set (ordW a s) b.ords _ (NO.flO (b.ords.getD (NO.openI b.ords x.ord).toNat default) x.qty) (open_at c2)
     have hfw:filW { b with clock:=x.time } a s (filX x)=if hitW a s x.acc x.sym then sideW x.buy x.qty else (0,0):=by
      unfold filW finB filX;dsimp only;rw[Bool.true_and]
      split
      .rw[if_neg (by simp)]
      .rfl
     rw[hfw];generalize ho:b.ords.getD (NO.openI b.ords x.ord).toNat default=o at *
     have hlo:NO.leftI o=o.qty - o.done/\NO.mayB o=true:=by
      unfold NO.leftI at c3 ⊢;by_cases hm:NO.mayB o=true/\o.op=true
      .rw[if_pos hm];exact ⟨rfl,hm.1⟩
      .rw[if_neg hm]at c3;omega
     have hln:NO.leftI (NO.flO o x.qty)=o.qty - o.done - x.qty:=by
      have hm:=hlo.2;have:=NO.mayB_spec hm;have h1:=hlo.1;unfold NO.leftI;by_cases hop:o.done+x.qty<o.qty
      .rw[if_pos]
       .show o.qty - (o.done+x.qty)=_;omega
       .refine ⟨?_,by simp[NO.flO,hop]⟩;unfold NO.mayB NO.flO at *;rw[Bool.and_eq_true,Bool.and_eq_true]at hm ⊢;exact ⟨⟨hm.1.1,decide_eq_true (by dsimp only;omega)⟩,decide_eq_true (by dsimp only;omega)⟩
      .rw[if_neg (by simp[NO.flO,hop])];omega
     have hk:addW (ordW a s (NO.flO o x.qty)) (if hitW a s x.acc x.sym then sideW x.buy x.qty else (0,0))=ordW a s o:=by
      unfold ordW;show addW (if hitW a s o.acc o.sym then sideW o.buy (NO.leftI (NO.flO o x.qty)) else (0,0)) _=_;rw[hh.1,hh.2,hln,hlo.1]
      split
      .unfold sideW addW;cases x.buy<;>(simp;try omega)
      .rfl
     have hlt:=fils_late (c:={ b with clock:=x.time }) (a:=a) (s:=s) hb ht;rw[<-hk]at hs;unfold leW ofW addW at *;simp only[Prod.mk.injEq]at hs;dsimp only at *;omega
    .rename_i hn;rw[if_neg hn]at h0
     split
     .rename_i hc;rw[if_pos hc]at h0;cases h0
     .rename_i hc;rw[if_neg hc]at h0
      split at h0<;>cases h0
   .rw[if_neg k2]at h0 ⊢;by_cases k4:x.kind=4
    .rw[if_pos k4]at h0 ⊢;rw[if_pos k4];rw[if_pos k4]at hf hh;unfold breplS at h0 ⊢
     split
     .rename_i hn;obtain ⟨o,ho1,ho2,ho3,_,_⟩:=NO.changeS_ok hn;refine of_le (hl _) ?_;show leW (sumW ((NO.changeS b.ords x.ref x.ord x.qty x.price).1.map _)) _;rw[ho3];rw[ho2]at hh ⊢
      have hc2:¬NO.openI b.ords x.ref<0:=by
       intro c;unfold NO.changeS at hn;rw[if_neg (by simp[hb.ords]),if_pos c]at hn;cases hn
      have hm:NO.mayB (NO.chO o x.ord x.qty x.price)=true:=by
       have he:b.ords.getD (NO.openI b.ords x.ref).toNat default=o:=by
        obtain ⟨o1,o2,o3⟩:=NO.openI_spec hc2;have:=ho2;unfold NO.findS at this;rw[if_pos ⟨hb.ords,o2⟩,o1]at this;exact (Prod.mk.inj this).1
       unfold NO.changeS at hn;rw[if_neg (by simp[hb.ords]),if_neg hc2,he]at hn
       split at hn
       .cases hn
       .rename_i h;simpa using h
      have hms:=NO.mayB_spec hm;have hs:=sw_set (ordW a s) b.ords _ (NO.shut o) (open_at hc2);rw[List.map_append,sumW_app,List.map_singleton,show ∀w,sumW [w]=w from fun w=>by simp[sumW,addW]]
      have h1:ordW a s (NO.shut o)=(0,0):=by
       unfold ordW NO.leftI NO.shut;simp[sideW]
      have h2:=ord_pos a s (b.ords.getD (NO.openI b.ords x.ref).toNat default)
      have h3:leW (ordW a s (NO.chO o x.ord x.qty x.price)) (if hitW a s x.acc x.sym then sideW x.buy (x.qty - o.done) else (0,0)):=by
       unfold ordW;show leW (if hitW a s o.acc o.sym then sideW o.buy _ else (0,0)) _;rw[hh.1,hh.2]
       split
       .exact side_mono (left_le (o:=NO.chO o x.ord x.qty x.price) (by omega))
       .exact Zx _
      rw[h1]at hs;unfold leW addW at *;simp only[Prod.mk.injEq]at hs;dsimp only at *;omega
     .rename_i hn;rw[if_neg hn]at h0
      split at h0<;>cases h0
    .rw[if_neg k4]at h0 ⊢;rw[if_neg k4];by_cases hn:(NO.closeS b.ords x.ord).2=0
     .rw[if_pos hn];refine of_le (hl _) ?_;rw[addW_0];show leW (sumW ((NO.closeS b.ords x.ord).1.map _)) _;unfold NO.closeS at hn ⊢
      split
      .exact Zx _
      .rename_i c1;rw[if_neg c1]at hn
       split
       .exact Zx _
       .rename_i c2;have hs:=sw_set (ordW a s) b.ords _ (NO.shut (b.ords.getD (NO.openI b.ords x.ord).toNat default)) (open_at c2)
        have h1:ordW a s (NO.shut (b.ords.getD (NO.openI b.ords x.ord).toNat default))=(0,0):=by
         unfold ordW NO.leftI NO.shut;simp[sideW]
        have h2:=ord_pos a s (b.ords.getD (NO.openI b.ords x.ord).toNat default);rw[h1]at hs;unfold leW addW at *;simp only[Prod.mk.injEq]at hs;dsimp only at *;omega
     .rw[if_neg hn]at h0;cases h0
theorem take_fresh {b:Bk} {x:Exe} (h1:(takeS b x).2=1):b.bad=0/\b.ids.length<256/\x.id∉b.ids/\(applyS { b with ids:=b.ids++[x.id] } x).2=0/\(takeS b x).1={ (applyS { b with ids:=b.ids++[x.id] } x).1 with clock:=x.time }:=by
 unfold takeS at h1 ⊢
 split
 .rename_i hc;rw[if_pos hc]at h1;cases h1
 .rename_i hc;rw[if_neg hc]at h1
  split
  .rename_i hc2;rw[if_pos hc2]at h1;cases h1
  .rename_i hc2;rw[if_neg hc2]at h1
   split
   .rename_i hc3;exact ⟨by omega,by omega,fun h=>hc2 (any_eqB.2 h),hc3,rfl⟩
   .rename_i hc3;rw[if_neg hc3]at h1;cases h1
theorem take_of {b:Bk} {x:Exe} {a s:ByteArray} (hb:bkP b) (hx:exP x) (h1:(takeS b x).2=1):leW (ofW (takeS b x).1 a s) (addW (ofW b a s) (addX b x a s)):=by
 obtain ⟨_,h2,h3,h4,h5⟩:=take_fresh h1;rw[h5];exact apply_of (ids_right hb h2 h3) hx h4
theorem take_bad {b:Bk} {x:Exe} (hb:bkP b) (hx:exP x) (h1:(takeS b x).2=1):(takeS b x).1.bad=0/\(takeS b x).1.ids=b.ids++[x.id]/\(takeS b x).1.clock=x.time:=by
 obtain ⟨h0,h2,h3,h4,h5⟩:=take_fresh h1;have k:=apply_keep (ids_right hb h2 h3) hx;rw[h5];exact ⟨k.bad.trans h0,k.ids,rfl⟩
def newK (x:Exe):Prop:=x.kind=1\/x.kind=4
instance (x:Exe):Decidable (newK x):=by unfold newK;infer_instance
def hearO (l:List Ord) (x:Exe):List Ord:=if newK x then l.eraseIdx (sentI l x).toNat else l
structure hearP (b:Bk) (l:List Ord) (x:Exe):Prop where
 ok:exB x=true
 fresh:(takeS b x).2=1
 place:newK x->0<=sentI l x
 done:x.kind=4->(l.getD (sentI l x).toNat default).done<=(NO.findS b.ords x.ref).1.done
def futP:Bk->List Ord->List Exe->Bk->List Ord->Prop
 | b,l,[],b',l'=>b=b'/\l=l'
 | b,l,x::r,b',l'=>hearP b l x/\futP (takeS b x).1 (hearO l x) r b' l'
theorem fut_snoc {b':Bk} {l':List Ord} {x:Exe} (hx:hearP b' l' x):∀ {r:List Exe} {b:Bk} {l:List Ord},futP b l r b' l'->futP b l (r++[x]) (takeS b' x).1 (hearO l' x)
 | [],b,l,h=>by obtain ⟨rfl,rfl⟩:=h;exact ⟨hx,rfl,rfl⟩
 | y::r,b,l,h=>⟨h.1,fut_snoc hx h.2⟩
theorem sent_lt (l:List Ord) (x:Exe):sentI l x<l.length:=(fstI_lt (sentP x) l).2
theorem fstN_app {α:Type} {p:α->Bool} {o:α}:∀ {l:List α} {k:Nat},fstN p l=some k->fstN p (l++[o])=some k
 | [],k,h=>by cases h
 | a::l,k,h=>by
  rw[List.cons_append];unfold fstN at h ⊢
  split
  .rename_i c;rw[if_pos c]at h;exact h
  .rename_i c;rw[if_neg c]at h;rw[Option.map_eq_some_iff]at h ⊢;obtain ⟨j,hj,e⟩:=h;exact ⟨j,fstN_app hj,e⟩
theorem sent_app {l:List Ord} {x:Exe} {o:Ord} (h:0<=sentI l x):sentI (l++[o]) x=sentI l x:=by
 unfold sentI fstI at h ⊢
 cases hk:fstN (sentP x) l with
 | none=>rw[hk]at h;exact absurd h (by decide)
 | some k=>rw[fstN_app hk]
theorem hear_app {b:Bk} {l:List Ord} {x:Exe} {o:Ord} (h:hearP b l x):hearP b (l++[o]) x/\hearO (l++[o]) x=hearO l x++[o]:=by
 refine ⟨⟨h.ok,h.fresh,fun k=>by rw[sent_app (h.place k)];exact h.place k,fun k=>?_⟩,?_⟩
 .have h0:=h.place (.inr k);have:=sent_lt l x;rw[sent_app h0,List.getD_eq_getElem?_getD,List.getElem?_append_left (by omega),<-List.getD_eq_getElem?_getD];exact h.done k
 .unfold hearO
  split
  .rename_i k;have:=sent_lt l x;have:=h.place k;rw[sent_app (h.place k),List.eraseIdx_append_of_lt_length (by omega)]
  .rfl
theorem fut_app {b':Bk} {l':List Ord} {o:Ord}:∀ {r:List Exe} {b:Bk} {l:List Ord},futP b l r b' l'->futP b (l++[o]) r b' (l'++[o])
 | [],b,l,h=>by obtain ⟨rfl,rfl⟩:=h;exact ⟨rfl,rfl⟩
 | y::r,b,l,h=>⟨(hear_app h.1).1,by rw[(hear_app h.1).2];exact fut_app h.2⟩
theorem hear_right {b:Bk} {l:List Ord} {x:Exe} (hb:bkP b) (hl:NO.rightB l=true) (h:hearP b l x):bkP (takeS b x).1/\NO.rightB (hearO l x)=true:=by
 refine ⟨take_right hb (exB_exP h.ok),?_⟩;unfold hearO
 split
 .exact erase_right hl
 .exact hl
def allW (b:Bk) (l:List Ord) (a s:ByteArray):Int×Int:=addW (ofW b a s) (pendW l a s)
theorem sent_at {l:List Ord} {x:Exe} (h:0<=sentI l x):sentP x (l.getD (sentI l x).toNat default)=true:=fstI_spec h
theorem pnd_pos {l:List Ord} {a s:ByteArray} (h:NO.rightB l=true):leW (0,0) (pendW l a s) :=
 sw_pos fun o ho=>by
  unfold pndW
  split
  .exact side_pos (may_rng (mem_may h o ho)).1
  .exact Zx _
theorem hear_le {b:Bk} {l:List Ord} {x:Exe} (hb:bkP b) (hl:NO.rightB l=true) (h:hearP b l x) (a s:ByteArray):leW (allW (takeS b x).1 (hearO l x) a s) (allW b l a s):=by
 have h1:=take_of (a:=a) (s:=s) hb (exB_exP h.ok) h.fresh;unfold allW hearO
 split
 .rename_i k;have hi:=h.place k;have hlt:=sent_lt l x;have he:=sw_erase (pndW a s) l (sentI l x).toNat (by omega)
  have hs:=sent_at hi;have hd:=h.done;have hm:=mem_may hl _ (getD_memO (l:=l) (i:=(sentI l x).toNat) (by omega));have hmr:=may_rng hm;generalize l.getD (sentI l x).toNat default=o at he hs hd hm hmr
  have hx:leW (addX b x a s) (pndW a s o):=by
   simp only[sentP,Bool.and_eq_true,Bool.or_eq_true,beq_iff_eq]at hs;obtain ⟨e1,e2,e3,e4,e5,e6,e7⟩:=hs;have e2:=NA.ba_eq e2;have e3:=NA.ba_eq e3;unfold addX pndW;rw[e2,e3,e4,e5];by_cases k1:x.kind=1
   .rw[if_pos k1];have:o.done=0:=by omega
    rw[this,Int.sub_zero];exact Zx _
   .have k4:x.kind=4:=k.resolve_left k1;rw[if_neg k1,if_pos k4]
    split
    .exact side_mono (by have:=hd k4;omega)
    .exact Zx _
  unfold pendW leW addW at *;rw[<-he];dsimp only at *;omega
 .rename_i k
  have hx:addX b x a s=(0,0):=by
   unfold newK at k;unfold addX;rw[if_neg (fun h=>k (.inl h)),if_neg (fun h=>k (.inr h))]
  rw[hx,addW_0]at h1;exact leW_add h1 (Zx _)
theorem fut_le {b':Bk} {l':List Ord} (a s:ByteArray):∀ {r:List Exe} {b:Bk} {l:List Ord},bkP b->NO.rightB l=true->futP b l r b' l'->leW (ofW b' a s) (allW b l a s)/\bkP b'/\NO.rightB l'=true
 | [],b,l,hb,hl,h=>by
  obtain ⟨rfl,rfl⟩:=h;refine ⟨?_,hb,hl⟩;have:=leW_add (Zx (ofW b a s)) (pnd_pos (a:=a) (s:=s) hl)
  rwa [addW_0]at this
 | x::r,b,l,hb,hl,h=>by
  have hr:=hear_right hb hl h.1;have ih:=fut_le a s hr.1 hr.2 h.2;exact ⟨leW_trans ih.1 (hear_le hb hl h.1 a s),ih.2⟩
def growP (l m:List Ord):Prop:=∀i,i<l.length->i<m.length/\(m.getD i default).id=(l.getD i default).id/\(l.getD i default).done<=(m.getD i default).done
theorem Zm (l:List Ord):growP l l:=fun _ h=>⟨h,rfl,Int.le_refl _⟩
theorem grow_set {l:List Ord} {k:Nat} {o:Ord} (h1:o.id=(l.getD k default).id) (h2:(l.getD k default).done<=o.done):growP l (l.set k o):=fun i hi=>by
 refine ⟨by simpa using hi,?_⟩;by_cases e:k=i
 .subst e;have:(l.set k o).getD k default=o:=by simp[List.getD_eq_getElem?_getD,hi]
  rw[this];exact ⟨h1,h2⟩
 .have:(l.set k o).getD i default=l.getD i default:=by simp[List.getD_eq_getElem?_getD,List.getElem?_set_ne e]
  rw[this];exact ⟨rfl,Int.le_refl _⟩
theorem grow_app {l m:List Ord} (h:growP l m) (o:Ord):growP l (m++[o]):=fun i hi=>by
 obtain ⟨h1,h2,h3⟩:=h i hi;have:(m++[o]).getD i default=m.getD i default:=by simp[List.getD_eq_getElem?_getD,List.getElem?_append_left h1]
 rw[this];exact ⟨by rw[List.length_append];omega,h2,h3⟩
theorem new_grow {l:List Ord} {o:Ord}:growP l (NO.newS l o).1:=by
 unfold NO.newS
 split
 .exact Zm _
 .split
  .exact Zm _
  .split
   .exact Zm _
   .exact grow_app (Zm _) _
theorem close_grow {l:List Ord} {id:ByteArray}:growP l (NO.closeS l id).1:=by
 unfold NO.closeS
 split
 .exact Zm _
 .split
  .exact Zm _
  .exact grow_set rfl (Int.le_refl _)
theorem fill_grow {l:List Ord} {id:ByteArray} {q p:Int}:growP l (NO.fillS l id q p).1:=by
 unfold NO.fillS
 split
 .exact Zm _
 .split
  .exact Zm _
  .split
   .exact Zm _
   .split
    .exact Zm _
    .exact grow_set rfl (by show _<=_+q;omega)
theorem change_grow {l:List Ord} {old id:ByteArray} {q p:Int}:growP l (NO.changeS l old id q p).1:=by
 unfold NO.changeS
 split
 .exact Zm _
 .split
  .exact Zm _
  .split
   .exact Zm _
   .split
    .exact Zm _
    .split
     .exact Zm _
     .exact grow_app (grow_set (l:=l) (k:=(NO.openI l old).toNat) (o:=NO.shut (l.getD (NO.openI l old).toNat default)) rfl (Int.le_refl _)) _
theorem apply_grow {b:Bk} {x:Exe}:growP b.ords (applyS b x).1.ords:=by
 unfold applyS
 split
 .exact Zm _
 .split
  .split
   .exact new_grow
   .exact Zm _
  .split
   .unfold bamendS
    split
    .exact Zm _
    .split
     .exact Zm _
     .split
      .exact Zm _
      .split
       .exact Zm _
       .split
        .exact Zm _
        .split<;>exact Zm _
   .generalize (if x.kind=4 then x.ref else x.ord)=id
    split
    .exact Zm _
    .split
     .exact Zm _
     .split
      .unfold bfillS
       split
       .exact fill_grow
       .split
        .exact Zm _
        .split<;>exact Zm _
      .split
       .unfold breplS
        split
        .exact change_grow
        .split<;>exact Zm _
       .split
        .exact close_grow
        .exact Zm _
theorem grow_find {l m:List Ord} (h:growP l m) (hm:NO.rightB m=true) {id:ByteArray} (hf:(NO.findS l id).2=true):(NO.findS m id).2=true/\(NO.findS l id).1.done<=(NO.findS m id).1.done:=by
 unfold NO.findS at hf ⊢
 split at hf
 .rename_i hc;obtain ⟨k1,k2,k3⟩:=NO.placeN_spec (NO.placeI_spec hc.2)
  have e:NO.placeN id m=some (NO.placeI l id).toNat:=by
   refine NO.placeN_some (h _ k1).1 (fun i hi=>?_) ?_
   .have:=k2 i hi;unfold NO.eqN at this ⊢;rw[(h i (by omega)).2.1];exact this
   .unfold NO.eqN at k3 ⊢;rw[(h _ k1).2.1];exact k3
  have e2:=NO.placeI_of e;rw[if_pos hc,if_pos ⟨hm,by omega⟩,e2];exact ⟨rfl,(h _ k1).2.2⟩
 .cases hf
theorem take_grow {b:Bk} {x:Exe} (h1:(takeS b x).2=1):growP b.ords (takeS b x).1.ords:=by
 obtain ⟨_,_,_,_,h⟩:=take_fresh h1;rw[h];exact @apply_grow { b with ids:=b.ids++[x.id] } x
theorem fut_find {b':Bk} {l':List Ord} {id:ByteArray}:∀ {r:List Exe} {b:Bk} {l:List Ord},bkP b->futP b l r b' l'->(NO.findS b.ords id).2=true->(NO.findS b'.ords id).2=true/\(NO.findS b.ords id).1.done<=(NO.findS b'.ords id).1.done
 | [],b,l,_,h,hf=>by obtain ⟨rfl,rfl⟩:=h;exact ⟨hf,Int.le_refl _⟩
 | x::r,b,l,hb,h,hf=>by
  have hb2:=take_right hb (exB_exP h.1.ok);have h1:=grow_find (take_grow h.1.fresh) hb2.ords hf;have h2:=fut_find hb2 h.2 h1.1;exact ⟨h2.1,Int.le_trans h1.2 h2.2⟩
def logP:Bk->List Exe->Bk->Prop
 | b,[],b'=>b=b'
 | b,x::r,b'=>(exB x=true/\(takeS b x).2=1)/\logP (takeS b x).1 r b'
theorem log_snoc {b':Bk} {x:Exe} (hx:exB x=true/\(takeS b' x).2=1):∀ {r:List Exe} {b:Bk},logP b r b'->logP b (r++[x]) (takeS b' x).1
 | [],b,h=>by cases h;exact ⟨hx,rfl⟩
 | y::r,b,h=>⟨h.1,log_snoc hx h.2⟩
end Eng
end Go.Proofs.YtgenjpingdkmgaaGreatDoor
