/- Contracts of functions that this seat's law calls. No condition. -/
import Derived.Test.YtgenjpingdkmgaaGreatDoorRows
import Derived.Test.YtgenjpingdkmgaaGreatDoorG21
set_option maxRecDepth 100000
set_option linter.unusedSimpArgs false
set_option linter.unusedVariables false
open Go.Proofs.Tryz
namespace Go.Proofs.YtgenjpingdkmgaaGreatDoor
namespace Eng
namespace ND
instance (f:List Int):Decidable (goodF f):=by unfold goodF;exact inferInstance
def lookF (b:List Int):Option (Int×List Int×List (List Int)×Nat) :=
 match (all b).1 with
 | []=>none
 | f::rest=>if goodF f then some (genL (g8 f),f.drop 9,rest,(all b).2) else none
theorem all_mem (b:List Int) (hb:Byt b):∀r,r∈(all b).1->Byt r/\1<=r.length/\r.length<=4096:=by
 generalize hn:b.length=n
 induction n using Nat.strongRecOn generalizing b with
 | ind n ih =>
  obtain ⟨⟨r,m,e⟩,hnx⟩:∃q,next b=q:=⟨_,rfl⟩
  by_cases he:e=0
  .subst he;have hp:=(next_pos _ _ _ _ hnx).1 rfl;rw[all_ok hnx];intro x hx;rcases List.mem_cons.1 hx with rfl|hx
   .unfold next at hnx
    repeat' split at hnx
    all_goals first
     | (exfalso;cases hnx;done)
     | (cases hnx
        refine ⟨byt_drop (byt_take hb _) _,?_,?_⟩<;>(rw[nextR,List.length_drop,List.length_take];omega))
   .exact ih (b.drop m.toNat).length (by rw[List.length_drop];omega) _ (byt_drop hb _) rfl x hx
  .rw[all_no hnx he];intro x hx;cases hx
theorem lookNone_c (b:List Int) (hb:Byt b) (hlen:b.length<=1000000) (h:lookF b=none):ACall prog 136 [] [SB b] (.t [.a cZ,.c (.v (.x (.bool false)))]) []:=by
 unfold lookF at h;have hm:=all_mem b hb
 match ha:(all b).1 with
 | []=>exact lookNone0_c b hb hlen ha
 | f::rest =>
  rw[ha]at h hm;have hf:=(hm f (List.mem_cons_self ..)).1;simp only[]at h
  split at h
  .cases h
  .rename_i hg;by_cases h9:9<=f.length/\f.getD 0 0=71
   .exact lookBad_c b f rest hb hf hlen ha h9.1 h9.2 (by
     have:¬(1<=genL (g8 f)/\genL (g8 f)<=4611686018427387904):=fun x=>hg ⟨h9.1,h9.2,x.1,x.2⟩
     omega)
   .exact lookNone1_c b f rest hb hlen ha h9
abbrev resO (A:List C) (sn:List Int) (en:List (List Int)):D:=.t [.a A,.c (.v (sB sn)),.c (.v (.s 1 (rSS en))),.c (.v (vI 0))]
abbrev jZ:List C:=[nilC,nilC,nilC,nilC,.v (vI 0),.v (vI 0)]
def qDJ41:=PLift.up (An @List.getD_nil.{0} (An @Bool.true_and @Bool.and_true))
theorem openN_c (s0 t0 s1 t1:List Int) (hl0:lookF (s0++t0)=none) (hl1:lookF (s1++t1)=none) (hb0:Byt (s0++t0)) (hb1:Byt (s1++t1)) (h:okD s0 t0 s1 t1):ACall prog 81 [] [diskD s0 t0 s1 t1] (resO (jA (put (first 1 [])) [] s1 t1 0 1) [] []) []:=by
 have hd1:=h.1;have hd2:=h.2;have hright:=right_c s0 t0 s1 t1 h;have hread0:=read0_c s0 t0 s1 t1 h;have hread1:=read1_c s0 t0 s1 t1 h;have hlen0:(s0++t0).length<=65536:=by rw[List.length_append];exact h.1
 have hlen1:(s1++t1).length<=65536:=by rw[List.length_append];exact h.2
 have hlook0:=lookNone_c _ hb0 (by omega) hl0;have hlook1:=lookNone_c _ hb1 (by omega) hl1;have hcut:=(begin0_c s0 t0 s1 t1 1 [] h (by simp)).args (bs:=[diskD s0 t0 s1 t1,I 0,I 1,.e (.c (.v (.x (.slice none 0 0))))]) (by simp only[q_P,q_VLe,q_cells,List.map_nil,and_self,and_true,true_and,eq_self]);generalize s0++t0=b0 at *;generalize s1++t1=b1 at *;refine Ac func81 ?_;refine Wk qDJ41.1 (An @hright (An @hread0 (An @hread1 (An @hlook0 (An @hlook1 @hcut))))) ?_;refine Cb ?_ ?_<;>intro hc<;>(try exact ⟨⟩)
 .contradiction
 .refine Wk qDJ41.1 (An @hright (An @hread0 (An @hread1 (An @hlook0 (An @hlook1 @hcut))))) ?_
  refine AWp.loop (τ:=ren [(1,64),(2,576)]) (fun k:Int=>mkSt [(1,.p 0 0),(2,.p 1 0),(6,I (if k=0 then -1 else if k=1 then -1 else -1)),(7,.p 2 0),(16,I k)] [(0,.loc (arrD s0 t0 s1 t1)),(1,.loc jZ),(2,.loc (if k=0 then cZ else if k=1 then cZ else cZ))] 3)
   (fun k=>k=0\/k=1\/k=2) (fun k=>(2 - k).toNat) 0 (.inl rfl) (by refine Le.of (ν:=[]) (by kernel_rfl) ?_ ?_<;>((refine Lw qDJ41.1 ?_;try exact ⟨⟩);try rfl)) fun k hk=>?_
  rcases hk with rfl|rfl|rfl
  .simp only[if_true];refine Wk qDJ41.1 (An @hright (An @hread0 (An @hread1 (An @hlook0 (An @hlook1 @hcut))))) ?_;refine Cb ?_ ?_<;>intro hc<;>(try exact ⟨⟩)
   .refine Wk qDJ41.1 (An @hright (An @hread0 (An @hread1 (An @hlook0 (An @hlook1 @hcut))))) ?_;refine Cb ?_ ?_<;>intro hc<;>(try exact ⟨⟩)
    .first|omega|(simp at hc;done)|(simp at hc;omega)|contradiction
    .skip
     refine Wk qDJ41.1 (An @hright (An @hread0 (An @hread1 (An @hlook0 (An @hlook1 @hcut))))) ?_;refine Za (τ:=ren []) (ν:=[]) 1 (.inr (.inl rfl)) (by omega) (by refine Le.of (by kernel_rfl) ?_ ?_<;>((refine Lw qDJ41.1 ?_;try exact ⟨⟩);try rfl))
   .first|omega|contradiction|exact absurd trivial hc
  .simp only[Int.reduceEq,if_true,if_false];refine Wk qDJ41.1 (An @hright (An @hread0 (An @hread1 (An @hlook0 (An @hlook1 @hcut))))) ?_;refine Cb ?_ ?_<;>intro hc<;>(try exact ⟨⟩)
   .refine Wk qDJ41.1 (An @hright (An @hread0 (An @hread1 (An @hlook0 (An @hlook1 @hcut))))) ?_;refine Cb ?_ ?_<;>intro hc<;>(try exact ⟨⟩)
    .first|omega|(simp at hc;done)|(simp at hc;omega)|contradiction
    .skip
     refine Wk qDJ41.1 (An @hright (An @hread0 (An @hread1 (An @hlook0 (An @hlook1 @hcut))))) ?_;refine Za (τ:=ren []) (ν:=[]) 2 (.inr (.inr rfl)) (by omega) (by refine Le.of (by kernel_rfl) ?_ ?_<;>((refine Lw qDJ41.1 ?_;try exact ⟨⟩);try rfl))
   .first|omega|contradiction|exact absurd trivial hc
  .simp only[Int.reduceEq,if_false];refine Wk qDJ41.1 (An @hright (An @hread0 (An @hread1 (An @hlook0 (An @hlook1 @hcut))))) ?_;refine Cb ?_ ?_<;>intro hc<;>(try exact ⟨⟩)
   .first|omega|contradiction
   .refine Wk qDJ41.1 (An @hright (An @hread0 (An @hread1 (An @hlook0 (An @hlook1 @hcut))))) ?_;refine Cb ?_ ?_<;>intro hc<;>(try exact ⟨⟩)
    .skip
     refine Wk qDJ41.1 (An @hright (An @hread0 (An @hread1 (An @hlook0 (An @hlook1 @hcut))))) ?_;refine Cb ?_ ?_<;>intro hc<;>(try exact ⟨⟩)
     .first|omega|(simp at hc;done)|(simp at hc;omega)|contradiction
     .skip
      refine Wk qDJ41.1 (An @hright (An @hread0 (An @hread1 (An @hlook0 (An @hlook1 @hcut))))) ?_;refine Fn @results81 qDJ41.1 ?_;try exact ⟨⟩
    .first|omega|(simp at hc;done)|(simp at hc;omega)|contradiction
end ND
namespace ND
abbrev jE (A:List C) (e:Int):D:=.t [.a A,.c (.v (vI e))]
theorem addBad_c (s0 t0 s1 t1:List Int) (at_ gen:Int) (b:List Int) (h:okD s0 t0 s1 t1) (ha:at_=0\/at_=1) (hg:1<=gen) (hg2:gen<=4611686018427387904) (hb:b.length<1):ACall prog 34 [] [jD s0 t0 s1 t1 at_ gen,SB b] (jE (jA s0 t0 s1 t1 at_ gen) 1) []:=by
 have hd1:=h.1;have hd2:=h.2;have hmay:=may_c s0 t0 s1 t1 at_ gen h ha hg hg2;have hown:=ownJ_c s0 t0 s1 t1 at_ gen h;have hput:True:=trivial;have hdo:True:=trivial;refine Ac func34 ?_;refine Wk trivial (An @hmay (An @hown (An @hput @hdo))) ?_;refine Cb ?_ ?_<;>intro hc<;>(try exact ⟨⟩)
 .refine Wk trivial (An @hmay (An @hown (An @hput @hdo))) ?_;refine Fn @results34 trivial ?_;try exact ⟨⟩
 .omega
theorem add0_c (s0 t0 s1 t1:List Int) (gen:Int) (b:List Int) (h:okD s0 t0 s1 t1) (hg:1<=gen) (hg2:gen<=4611686018427387904) (hb:1<=b.length) (hb2:b.length<=4000) (hl:s0.length+t0.length+(6+b.length)<=65536):ACall prog 34 [] [jD s0 t0 s1 t1 0 gen,SB b] (jE (jA s0 (t0++put b) s1 t1 0 gen) 0) []:=by
 have hd1:=h.1;have hd2:=h.2;have hmay:=may_c s0 t0 s1 t1 0 gen h (by omega) hg hg2;have hown:True:=trivial;have hput:=put_c b (by omega) (by omega);have hpl:=put_len b;have hdo:=write0_c s0 t0 s1 t1 (put b) h (by omega);generalize put b=rec at *;refine Ac func34 ?_;refine Wk trivial (An @hmay (An @hown (An @hput @hdo))) ?_;refine Cb ?_ ?_<;>intro hc<;>(try exact ⟨⟩)
 .omega
 .refine Wk trivial (An @hmay (An @hown (An @hput @hdo))) ?_;refine Cb ?_ ?_<;>intro hc<;>(try exact ⟨⟩)
  .contradiction
  .refine Wk trivial (An @hmay (An @hown (An @hput @hdo))) ?_;refine Cb ?_ ?_<;>intro hc<;>(try exact ⟨⟩)
   .contradiction
   .refine Wk trivial (An @hmay (An @hown (An @hput @hdo))) ?_;refine Fn @results34 trivial ?_;try exact ⟨⟩
theorem addFull0_c (s0 t0 s1 t1:List Int) (gen:Int) (b:List Int) (h:okD s0 t0 s1 t1) (hg:1<=gen) (hg2:gen<=4611686018427387904) (hb:1<=b.length) (hb2:b.length<=4000) (hl:65536<s0.length+t0.length+(6+b.length)):ACall prog 34 [] [jD s0 t0 s1 t1 0 gen,SB b] (jE (jA s0 t0 s1 t1 0 gen) 5) []:=by
 have hd1:=h.1;have hd2:=h.2;have hmay:=may_c s0 t0 s1 t1 0 gen h (by omega) hg hg2;have hown:=ownJ_c s0 t0 s1 t1 0 gen h;have hput:=put_c b (by omega) (by omega);have hpl:=put_len b;have hdo:=writex0_c s0 t0 s1 t1 (put b) h (by omega) (by omega);generalize put b=rec at *;refine Ac func34 ?_;refine Wk trivial (An @hmay (An @hown (An @hput @hdo))) ?_;refine Cb ?_ ?_<;>intro hc<;>(try exact ⟨⟩)
 .omega
 .refine Wk trivial (An @hmay (An @hown (An @hput @hdo))) ?_;refine Cb ?_ ?_<;>intro hc<;>(try exact ⟨⟩)
  .contradiction
  .refine Wk trivial (An @hmay (An @hown (An @hput @hdo))) ?_;refine Cb ?_ ?_<;>intro hc<;>(try exact ⟨⟩)
   .refine Wk trivial (An @hmay (An @hown (An @hput @hdo))) ?_;refine Fn @results34 trivial ?_;try exact ⟨⟩
   .contradiction
end ND
structure Kee where
 cnt:Int
 pat:Int
 s0:List Int
 t0:List Int
 s1:List Int
 t1:List Int
 gen:Int
structure keeP (k:Kee):Prop where
 h0:k.s0.length+k.t0.length<=65536
 h1:k.s1.length+k.t1.length<=65536
 gen:1<=k.gen/\k.gen<=4611686018427387904
abbrev keC (k:Kee) (g:Gat):List C:=[.v (vI k.cnt),.v (vI k.pat),.v (sB k.s0),.v (sB k.t0),.v (sB k.s1),.v (sB k.t1),.v (vI 0),.v (vI k.gen),.v (.s 8 (vR g.vens)),.v (.s 6 (NA.lR g.lims)),.v (vB g.kill),.v (vI g.now),.v (vI g.pat)]
abbrev keD (k:Kee) (g:Gat):D:=.e (.a (keC k g))
abbrev keO (k:Kee) (g:Gat) (r:Nat):List C:=[.v (vI k.cnt),.v (vI k.pat),.v (sB k.s0),.v (sB k.t0),.v (sB k.s1),.v (sB k.t1),.v (vI 0),.v (vI k.gen),.o r g.vens.length,.v (.s 6 (NA.lR g.lims)),.v (vB g.kill),.v (vI g.now),.v (vI g.pat)]
abbrev kzC:List C:=[.v (vI 0),.v (vI 0),.v (.x (.slice none 0 0)),.v (.x (.slice none 0 0)),.v (.x (.slice none 0 0)),.v (.x (.slice none 0 0)),.v (vI 0),.v (vI 0),.v (.x (.slice none 0 0)),.v (.x (.slice none 0 0)),.v (vB false),.v (vI 0),.v (vI 0)]
def qKC1:=PLift.up (An @Yl (An @Zi @among2))
theorem kclone_c (k:Kee) (g:Gat) (hk:keeP k) (h:gatP g):ACall prog 31 [] [keD k g] (keD k g) []:=by
 have hn:=h.n;have hll:=h.lims.1;have hj0:=hk.h0;have hj1:=hk.h1;have hclv:=cloneV_c g.vens (by omega);have hcl5:=NA.clone_c g.lims (by omega);refine Ac func31 ?_;refine Wk qKC1.1 (An @hclv (An @hcl5 @ND.clone_c)) ?_
 refine AWp.loop (fun s:Int=>mkSt [(1,.p 0 0),(2,.p 1 0),(7,I s)] [(0,.loc (keC k g)),(1,.loc kzC)] 2)
  (fun s=>s=0\/s=1\/s=2) (fun s=>(2 - s).toNat) 0 (.inl rfl) (by refine Le.of (τ:=[(1,64)]) (ν:=[]) (by kernel_rfl) ?_ ?_<;>((refine Lw qKC1.1 ?_;try exact ⟨⟩);try (first|omega|rfl|exact ⟨rfl,rfl⟩))) fun s hs=>?_
 rcases hs with rfl|rfl|rfl
 .refine Wk qKC1.1 (An @hclv (An @hcl5 @ND.clone_c)) ?_;refine Cb ?_ ?_<;>intro hc<;>(try exact ⟨⟩)
  .refine Wk qKC1.1 (An @hclv (An @hcl5 @ND.clone_c)) ?_;refine Za (1:Int) (.inr (.inl rfl)) (by omega) (by refine Le.of (τ:=[]) (ν:=[]) (by kernel_rfl) ?_ ?_<;>((refine Lw qKC1.1 ?_;try exact ⟨⟩);try omega))
  .omega
 .refine Wk qKC1.1 (An @hclv (An @hcl5 @ND.clone_c)) ?_;refine Cb ?_ ?_<;>intro hc<;>(try exact ⟨⟩)
  .refine Wk qKC1.1 (An @hclv (An @hcl5 @ND.clone_c)) ?_;refine Za (2:Int) (.inr (.inr rfl)) (by omega) (by refine Le.of (τ:=[]) (ν:=[]) (by kernel_rfl) ?_ ?_<;>((refine Lw qKC1.1 ?_;try exact ⟨⟩);try omega))
  .omega
 .refine Wk qKC1.1 (An @hclv (An @hcl5 @ND.clone_c)) ?_;refine Cb ?_ ?_<;>intro hc<;>(try exact ⟨⟩)
  .omega
  .refine Wk qKC1.1 (An @hclv (An @hcl5 @ND.clone_c)) ?_
   refine AWp.loop (fun i:Nat=>mkSt [(1,.p 0 0),(2,.p 1 0),(41,I g.vens.length),(42,I i)] [(0,.loc (keO k g 2)),(1,.loc kzC),(2,.row 8 (vR g.vens))] 3)
    (fun i=>i<=g.vens.length) (fun i=>g.vens.length - i) 0 (Nat.zero_le _) (by refine Le.of (τ:=[(2,258)]) (ν:=[]) (by kernel_rfl) ?_ ?_<;>((refine Lw qKC1.1 ?_;try exact ⟨⟩);try (first|omega|rfl|exact ⟨rfl,rfl⟩))) fun i hi=>?_
   refine Wk qKC1.1 (An @hclv (An @hcl5 @ND.clone_c)) ?_;refine Cb ?_ ?_<;>intro hc<;>(try exact ⟨⟩)
   .have hil:i<g.vens.length:=by omega
    have hp:=h.vens _ (Ya hil);have hroom:=hp.room;have hfl:=hp.bk.fl;have hidl:=hp.bk.il;have hcl1:=NO.clone_c (g.vens.getD i default).bk.ords (by omega);have hcl2:=cloneF_c (g.vens.getD i default).bk.fills (by omega);have hcl3:=cloneS_c (g.vens.getD i default).bk.ids (by omega);have hcl4:=NO.clone_c (g.vens.getD i default).sent (by omega);have hb1:(vR g.vens).set i (NO.osV (g.vens.getD i default).bk.ords::List.drop 1 ((vR g.vens).getD i []))=vR g.vens:=Z4 _ _ hil _ (by rw[Zt _ _ hil];rfl);have hb2:(vR g.vens).set i (List.take 1 ((vR g.vens).getD i [])++[fsV (g.vens.getD i default).bk.fills]++List.drop 2 ((vR g.vens).getD i []))=vR g.vens:=Z4 _ _ hil _ (by rw[Zt _ _ hil];rfl);have hb3:(vR g.vens).set i (List.take 2 ((vR g.vens).getD i [])++[ssV (g.vens.getD i default).bk.ids]++List.drop 3 ((vR g.vens).getD i []))=vR g.vens:=Z4 _ _ hil _ (by rw[Zt _ _ hil];rfl);have hb4:(vR g.vens).set i (List.take 5 ((vR g.vens).getD i [])++[NO.osV (g.vens.getD i default).sent]++List.drop 6 ((vR g.vens).getD i []))=vR g.vens:=Z4 _ _ hil _ (by rw[Zt _ _ hil];rfl);refine Wk (An @hb1 (An @hb2 (An @hb3 (An @hb4 qKC1.1)))) (An @hclv (An @hcl1 (An @hcl2 (An @hcl3 (An @hcl4 (An @hcl5 @ND.clone_c)))))) ?_;refine Za (i+1) (show i+1<=g.vens.length by omega) (by omega) (by refine Le.of (τ:=[]) (ν:=[]) (by kernel_rfl) ?_ ?_<;>((refine Lw (An @hb1 (An @hb2 (An @hb3 (An @hb4 qKC1.1)))) ?_;try exact ⟨⟩);try omega))
   .refine Wk qKC1.1 (An @hclv (An @hcl5 @ND.clone_c)) ?_;refine Fn @results31 qKC1.1 ?_;try exact ⟨⟩
theorem by_int (l:List UInt8):ND.rB (bytI l)=byR l:=by simp[bytI]
noncomputable def addK (k:Kee) (b:List UInt8):Kee×Int :=
 if 1<=b.length then (if k.s0.length+k.t0.length+(6+b.length)<=65536 then ({ k with t0:=k.t0++ND.put (bytI b) },0) else (k,5)) else (k,1)
theorem jadd_c (k:Kee) (hk:keeP k) (b:List UInt8) (hb:b.length<=4000) (r:Kee×Int) (hr:addK k b=r) :
 ACall prog 34 [] [ND.jD k.s0 k.t0 k.s1 k.t1 0 k.gen,byD b] (ND.jE (ND.jA r.1.s0 r.1.t0 r.1.s1 r.1.t1 0 r.1.gen) r.2) []:=by
 have hl:(bytI b).length=b.length:=by simp[bytI]
 show ACall prog 34 [] [_,.e (.c (.v (.s 1 (byR b))))] _ [];rw[<-by_int b];subst hr;unfold addK
 split
 .split
  .exact ND.add0_c k.s0 k.t0 k.s1 k.t1 k.gen (bytI b) ⟨hk.h0,hk.h1⟩ hk.gen.1 hk.gen.2 (by omega) (by omega) (by omega)
  .exact ND.addFull0_c k.s0 k.t0 k.s1 k.t1 k.gen (bytI b) ⟨hk.h0,hk.h1⟩ hk.gen.1 hk.gen.2 (by omega) (by omega) (by omega)
 .exact ND.addBad_c k.s0 k.t0 k.s1 k.t1 0 k.gen (bytI b) ⟨hk.h0,hk.h1⟩ (.inl rfl) hk.gen.1 hk.gen.2 (by omega)
theorem addK_right {k:Kee} {b:List UInt8} (hk:keeP k):keeP (addK k b).1:=by
 unfold addK
 split
 .split
  .refine ⟨?_,hk.h1,hk.gen⟩;have:=ND.put_len (bytI b);have hl:(bytI b).length=b.length:=by simp[bytI]
   show k.s0.length+(k.t0++ND.put (bytI b)).length<=65536;rw[List.length_append];omega
  .exact hk
 .exact hk
theorem addK_pat {k:Kee} {b:List UInt8}:(addK k b).1.cnt=k.cnt/\(addK k b).1.pat=k.pat:=by
 unfold addK
 split
 .split<;>exact ⟨rfl,rfl⟩
 .exact ⟨rfl,rfl⟩
noncomputable def doK (k:Kee) (g:Gat) (a:Ask):(Kee×Gat)×Int×Int :=
 if (putK a).2≠0 then ((k,g),0,(putK a).2)
 else if (askG g a).2.2≠0 then ((k,g),0,(askG g a).2.2)
 else if (addK k (putK a).1).2≠0 then ((k,g),0,(addK k (putK a).1).2)
 else (((addK k (putK a).1).1,(askG g a).1),(askG g a).2.1,0)
theorem doK_right {k:Kee} {g:Gat} {a:Ask} (hk:keeP k) (h:gatP g):keeP (doK k g a).1.1/\gatP (doK k g a).1.2:=by
 unfold doK
 split
 .exact ⟨hk,h⟩
 .split
  .exact ⟨hk,h⟩
  .split
   .exact ⟨hk,h⟩
   .exact ⟨addK_right hk,ask_right h⟩
theorem putK_len (a:Ask):(putK a).1.length<=4000:=by
 unfold putK
 split
 .split
  .have h1:=fieldsK_len a;show (putF (fieldsK a)).1.length<=_;unfold putF
   split
   .rename_i h;have:=encL_len _ h.2;show (encL (fieldsK a)).length<=_;omega
   .exact Nat.zero_le _
  .exact Nat.zero_le _
 .exact Nat.zero_le _
theorem do_c (k:Kee) (g:Gat) (a:Ask) (hk:keeP k) (h:gatP g) (r:(Kee×Gat)×Int×Int) (hr:doK k g a=r) :
 ACall prog 8 [] [keD k g,aD a] (.t [.a (keC r.1.1 r.1.2),.c (.v (vI r.2.1)),.c (.v (vI r.2.2))]) []:=by
 have hclone:=kclone_c k g hk h;have hput:=kput_c a _ rfl;have hask:=ask_c g a h _ rfl;have hadd:=jadd_c k hk (putK a).1 (putK_len a) _ rfl;unfold doK at hr;have hpat:=addK_pat (k:=k) (b:=(putK a).1)
 generalize putK a=p at hput hadd hr hpat
 generalize askG g a=q at hask hr;generalize addK k p.1=z at hadd hr hpat
 obtain ⟨bs,e⟩:=p;obtain ⟨g1,kd,e1⟩:=q;obtain ⟨⟨cnt,pat,s0,t0,s1,t1,gen⟩,e2⟩:=z;dsimp only at hput hask hadd hr hpat
 obtain ⟨rfl,rfl⟩:=hpat
 refine Ac func8 ?_;refine Wk trivial (An @hclone (An @hput (An @hask @hadd))) ?_;refine Cb ?_ ?_<;>intro hc<;>(try exact ⟨⟩)
 .rw[if_pos hc]at hr;subst hr;refine Wk trivial (An @hclone (An @hput (An @hask @hadd))) ?_;refine Fn @results8 trivial ?_;try exact ⟨⟩
 .rw[if_neg (by omega)]at hr;refine Wk trivial (An @hclone (An @hput (An @hask @hadd))) ?_;refine Cb ?_ ?_<;>intro hc<;>(try exact ⟨⟩)
  .rw[if_pos hc]at hr;subst hr;refine Wk trivial (An @hclone (An @hput (An @hask @hadd))) ?_;refine Fn @results8 trivial ?_;try exact ⟨⟩
  .rw[if_neg (by omega)]at hr;refine Wk trivial (An @hclone (An @hput (An @hask @hadd))) ?_;refine Cb ?_ ?_<;>intro hc<;>(try exact ⟨⟩)
   .rw[if_pos hc]at hr;subst hr;refine Wk trivial (An @hclone (An @hput (An @hask @hadd))) ?_;refine Fn @results8 trivial ?_;try exact ⟨⟩
   .rw[if_neg (by omega)]at hr;subst hr;refine Wk trivial (An @hclone (An @hput (An @hask @hadd))) ?_;refine Fn @results8 trivial ?_;try exact ⟨⟩
namespace ND
theorem all_nil:all []=([],0):=all_no (n:=0) (e:=2) (r:=[]) (by rfl) (by decide)
end ND
def newG (n:Nat) (p:Int):Gat:=⟨List.replicate n default,[],false,0,p⟩
theorem right_nil:NO.rightB ([]:List Ord)=true:=NO.Zy.2 ⟨by decide,by simp[NO.rightP]⟩
theorem newG_right {n:Nat} {p:Int} (h1:1<=n) (h4:n<=4) (hp:timeP p):gatP (newG n p):=by
 refine ⟨by simp[newG];omega,⟨by simp[newG],?_⟩,⟨Int.le_refl _,by show (0:Int)<=_;omega⟩,hp,fun v hv=>?_⟩
 .intro i hi;exact absurd hi (Nat.not_lt_zero _)
 .have e:v=default:=(List.mem_replicate.1 hv).2;subst e;refine ⟨⟨right_nil,by decide,by decide,by decide,by decide,List.nodup_nil,fun f hf=>absurd hf List.not_mem_nil,List.nodup_nil⟩,right_nil,by decide,⟨Int.le_refl _,Int.le_refl _⟩,fun o ho=>absurd ho List.not_mem_nil⟩
def zVen:List V:=[.x (.slice none 0 0),.x (.slice none 0 0),.x (.slice none 0 0),vI 0,vI 0,.x (.slice none 0 0),vI 0,vB false]
theorem zrows_le (n:Nat) (i:Nat) (r':List V) (j:Nat) (v':V) (h1:(vR (newG n 0).vens)[i]?=some r') (h2:r'[j]?=some v'):∃r0 v,(List.replicate n zVen)[i]?=some r0/\r0[j]?=some v/\VLe v' v:=by
 rw[List.getElem?_map]at h1
 have hi:i<n:=by
  cases h:(newG n 0).vens[i]? with
  | none=>rw[h]at h1;cases h1
  | some v=>have:=(List.getElem?_eq_some_iff.1 h).1;simpa[newG] using this
 have e:(newG n 0).vens[i]?=some default:=by simp[newG,List.getElem?_replicate,hi]
 rw[e]at h1;cases h1;refine ⟨zVen,?_⟩;rw[List.getElem?_replicate,if_pos hi]
 match j,h2 with
 | 0,h2=>cases h2;exact ⟨_,rfl,rfl,rfl,rfl⟩
 | 1,h2=>cases h2;exact ⟨_,rfl,rfl,rfl,rfl⟩
 | 2,h2=>cases h2;exact ⟨_,rfl,rfl,rfl,rfl⟩
 | 3,h2=>cases h2;exact ⟨_,rfl,rfl,rfl⟩
 | 4,h2=>cases h2;exact ⟨_,rfl,rfl,rfl⟩
 | 5,h2=>cases h2;exact ⟨_,rfl,rfl,rfl,rfl⟩
 | 6,h2=>cases h2;exact ⟨_,rfl,rfl,rfl⟩
 | 7,h2=>cases h2;exact ⟨_,rfl,rfl,rfl⟩
 | n+8,h2=>simp at h2
theorem gnew_c (n:Nat) (p:Int) (h1:1<=n) (h4:n<=4) (hp:timeP p):ACall prog 23 [] [I n,I p] (.t [.a (gtC (newG n p)),.c (.v (vI 0))]) []:=by
 have ht:=isTime_c p hp;refine Ac func23 ?_;refine Wk trivial @ht ?_;refine Cb ?_ ?_<;>intro hc<;>(try exact ⟨⟩)
 .omega
 ·(repeat (first|refine AWp.seq ?_|refine AWp.block ?_|refine AWp.skip ?_));(first|refine AWp.text (own:=nO) tG_ok (by kernel_rfl) (fun K hK=>?_)|refine AWp.draw (own:=nO) tG_ok mixed (by kernel_rfl) (by kernel_rfl) (fun K hK=>?_));(repeat' (revert hK;intro hK;first|(with_reducible refine hK _ _ _ ?_;clear hK K)|(with_reducible refine hK _ _ _ ?_ ?_;(focus kernel_rfl);clear hK K)|((with_reducible change CallS _ _ _ _ _ _);(first|refine CallS.of ht ?_))|(with_reducible refine And.intro ?_ ?_)|(simp (disch:=omega) only[↓reduceIte,Zo,backT,pos,idsB,idsC,nodup,live,makeSliceE,viewE,viewFE,appendUE,appendFE,capFE,copyE,copySrc,clearE,guardB,isNilOp,nilS,withTy,splice,lenE,appendE,sliceE,boundE,indexAddrE,indexE,buildE,fillE,buildSliceE,partsE,builtinE,minE,minI,convE,convHE,appendNE,capE,D.x,id_eq,eq_self,if_true,if_false,ne_eq,implies_true,Nat.reduceAdd,Nat.reduceMul,Nat.reduceSub,Nat.reduceEqDiff,Nat.reduceLT,Nat.reduceLeDiff,reduceCtorEq,Zp,forall_const,Nat.reduceBEq,Int.reduceEq,Int.reduceToNat,bne_self_eq_false,true_and,tyAll])|(first|omega|(intro hq;(try simp only[Zf,ne_eq,Bool.not_not,Bool.and_true]at hq);first|omega|assumption|(simp_all;done))|(simp_all;done))|(intro (bn:Bool) hbn)))
  change AWp _ _ _ _ _ _;refine AWp.le (st2:=mkSt [(4,.p 0 0),(5,I 0)] [(0,.loc [.o 1 n,.v (.x (.slice none 0 0)),.v (vB false),.v (vI 0),.v (vI p)]),(1,.row 8 (List.replicate n zVen))] 2) (by refine Le.of (τ:=[(1,896)]) (ν:=[]) (by kernel_rfl) ?_ ?_<;>((refine Lw trivial ?_;try exact ⟨⟩);try (first|omega|rfl|exact ⟨rfl,rfl⟩))) ?_;refine AWp.rows (r:=1) (k:=8) (rows:=List.replicate n zVen) (by rfl) (vR (newG n 0).vens) (by simp[newG]) (fun r' h=>by obtain ⟨v,_,rfl⟩:=List.mem_map.1 h;rfl) (zrows_le n) ?_;refine Wk trivial @ht ?_;refine Fn @results23 trivial ?_;try exact ⟨⟩
  exact ⟨⟨(List.take_of_length_le (by simp[newG])).symm,by simp[newG]⟩,rfl,rfl,rfl,rfl⟩
def newE (n:Nat) (p:Int):Kee:=⟨n,p,ND.put (ND.first 1 []),[],[],[],1⟩
theorem newE_right (n:Nat) (p:Int):keeP (newE n p):=by
 refine ⟨?_,by show (0:Nat)+0<=_;omega,by show (1:Int)<=1/\(1:Int)<=_;omega⟩;have h:=ND.put_len (ND.first 1 []);have h2:=ND.first_len 1 [];show (ND.put (ND.first 1 [])).length+0<=_;rw[h,h2];decide
abbrev zDisk:D:=.e (.a [.v (.x (.slice none 0 0)),.v (.x (.slice none 0 0)),.v (.x (.slice none 0 0)),.v (.x (.slice none 0 0))])
theorem look_nil:ND.lookF ([]++[])=none:=by
 unfold ND.lookF;rw[List.append_nil,ND.all_nil]
theorem byt_nil:ND.Byt ([]++[]):=fun j=>by simp
theorem raise_c (n:Nat) (p:Int) (h1:1<=n) (h4:n<=4) (hp:timeP p):ACall prog 30 [] [I n,I p,zDisk] (.t [.a (keC (newE n p) (newG n p)),.c (.v (vI 0))]) []:=by
 have hg:=gnew_c n p h1 h4 hp;have ho:=(ND.openN_c [] [] [] [] look_nil look_nil byt_nil byt_nil ⟨by decide,by decide⟩).args (bs:=[zDisk]) (by simp only[q_P,q_VLe,q_cells,List.map_nil,and_self,and_true,true_and,eq_self]);refine Ac func30 ?_;refine Wk trivial (An @hg @ho) ?_;refine Cb ?_ ?_<;>intro hc<;>(try exact ⟨⟩)
 .contradiction
 .refine Wk trivial (An @hg @ho) ?_;refine Cb ?_ ?_<;>intro hc<;>(try exact ⟨⟩)
  .contradiction
  .refine Wk trivial (An @hg @ho) ?_
   refine AWp.loop (fun _:Nat=>mkSt [(0,I n),(1,I p),(6,.p 1 0),(8,.p 2 0),(10,.p 3 0),(40,.e (.c (.v (.s 1 [])))),(41,I 0),(42,I 0)]
    [(0,.loc [.v (.x (.slice none 0 0)),.v (.x (.slice none 0 0)),.v (.x (.slice none 0 0)),.v (.x (.slice none 0 0))]),(1,.loc kzC),(2,.loc (gtC (newG n p))),(3,.loc (ND.jA (ND.put (ND.first 1 [])) [] [] [] 0 1))] 4)
    (fun k=>k=0) (fun _=>0) 0 rfl (by refine Le.of (τ:=[(1,64),(2,576),(3,1344)]) (ν:=[]) (by kernel_rfl) ?_ ?_<;>((refine Lw trivial ?_;try exact ⟨⟩);try (first|omega|rfl|exact ⟨rfl,rfl⟩))) fun k hk=>?_
   refine Wk trivial (An @hg @ho) ?_;refine Cb ?_ ?_<;>intro hc<;>(try exact ⟨⟩)
   .omega
   .refine Wk trivial (An @hg @ho) ?_;refine Fn @results30 trivial ?_;try exact ⟨⟩
    exact ⟨rfl,rfl,rfl,rfl,rfl,rfl,rfl⟩
theorem knew_c (n:Nat) (p:Int) (h1:1<=n) (h4:n<=4) (hp:timeP p):ACall prog 7 [] [I n,I p] (.t [.a (keC (newE n p) (newG n p)),.c (.v (vI 0))]) []:=by
 have hg:True:=trivial;have ho:=raise_c n p h1 h4 hp;refine Ac func7 ?_;refine Wk trivial (An @hg @ho) ?_;refine Fn @results7 trivial ?_;try exact ⟨⟩
theorem beqT {α:Type} [BEq α] [ReflBEq α] (a:α):(a == a)=true:=beq_self_eq_true a
def qKS1:=PLift.up (An @NO.Ze (An @beqT @Bool.and_true))
theorem sameO_c (l:List Ord) (hl:l.length<=1000):ACall prog 55 [] [NO.osD l,NO.osD l] (B true) []:=by
 refine Ac func55 ?_;refine Wk qKS1.1 trivial ?_;refine Cb ?_ ?_<;>intro hc<;>(try exact ⟨⟩)
 .contradiction
 .refine Wk qKS1.1 trivial ?_;refine AWp.loop (fun i:Nat=>mkSt [(0,NO.osD l),(1,NO.osD l),(5,I i)] [] 0) (fun i=>i<=l.length) (fun i=>l.length - i) 0 (Nat.zero_le _) (by refine Le.of (τ:=[]) (ν:=[]) (by kernel_rfl) ?_ ?_<;>((refine Lw qKS1.1 ?_;try exact ⟨⟩);try rfl)) fun i hi=>?_;refine Wk qKS1.1 trivial ?_;refine Cb ?_ ?_<;>intro hc<;>(try exact ⟨⟩)
  .have hil:i<l.length:=by omega
   refine Wk qKS1.1 trivial ?_;refine Cb ?_ ?_<;>intro hc<;>(try exact ⟨⟩)
   .contradiction
   .refine Wk qKS1.1 trivial ?_;refine Za (i+1) (show i+1<=l.length by omega) (by omega) (by refine Le.of (τ:=[]) (ν:=[]) (by kernel_rfl) ?_ ?_<;>((refine Lw qKS1.1 ?_;try exact ⟨⟩);try omega))
  .refine Wk qKS1.1 trivial ?_;refine Fn @results55 qKS1.1 ?_;try exact ⟨⟩
def qKS2:=PLift.up (An @NA.Zb (An @beqT @Bool.and_true))
theorem sameL_c (l:List NA.Lim) (hl:l.length<=1000):ACall prog 53 [] [NA.lsD l,NA.lsD l] (B true) []:=by
 refine Ac func53 ?_;refine Wk qKS2.1 trivial ?_;refine Cb ?_ ?_<;>intro hc<;>(try exact ⟨⟩)
 .contradiction
 .refine Wk qKS2.1 trivial ?_;refine AWp.loop (fun i:Nat=>mkSt [(0,NA.lsD l),(1,NA.lsD l),(5,I i)] [] 0) (fun i=>i<=l.length) (fun i=>l.length - i) 0 (Nat.zero_le _) (by refine Le.of (τ:=[]) (ν:=[]) (by kernel_rfl) ?_ ?_<;>((refine Lw qKS2.1 ?_;try exact ⟨⟩);try rfl)) fun i hi=>?_;refine Wk qKS2.1 trivial ?_;refine Cb ?_ ?_<;>intro hc<;>(try exact ⟨⟩)
  .have hil:i<l.length:=by omega
   refine Wk qKS2.1 trivial ?_;refine Cb ?_ ?_<;>intro hc<;>(try exact ⟨⟩)
   .contradiction
   .refine Wk qKS2.1 trivial ?_;refine Za (i+1) (show i+1<=l.length by omega) (by omega) (by refine Le.of (τ:=[]) (ν:=[]) (by kernel_rfl) ?_ ?_<;>((refine Lw qKS2.1 ?_;try exact ⟨⟩);try omega))
  .refine Wk qKS2.1 trivial ?_;refine Fn @results53 qKS2.1 ?_;try exact ⟨⟩
def qKS3:=PLift.up (An @Z0 (An @Zh (An @beqT @Bool.and_true)))
theorem sameB_c (b:Bk) (h1:b.ords.length<=1000) (h2:b.fills.length<=1000) (h3:b.ids.length<=1000):ACall prog 54 [] [.e (.a (bkC b)),.e (.a (bkC b))] (B true) []:=by
 have ho:=sameO_c b.ords h1;refine Ac func54 ?_;refine Wk qKS3.1 @ho ?_;refine Cb ?_ ?_<;>intro hc<;>(try exact ⟨⟩)
 .contradiction
 .refine Wk qKS3.1 @ho ?_;refine AWp.loop (fun i:Nat=>mkSt [(2,.p 0 0),(3,.p 1 0),(5,I i)] [(0,.loc (bkC b)),(1,.loc (bkC b))] 2) (fun i=>i<=b.fills.length) (fun i=>b.fills.length - i) 0 (Nat.zero_le _) (by refine Le.of (τ:=[(1,64)]) (ν:=[]) (by kernel_rfl) ?_ ?_<;>((refine Lw qKS3.1 ?_;try exact ⟨⟩);try (first|omega|rfl|exact ⟨rfl,rfl⟩))) fun i hi=>?_;refine Wk qKS3.1 @ho ?_;refine Cb ?_ ?_<;>intro hc<;>(try exact ⟨⟩)
  .have hil:i<b.fills.length:=by omega
   refine Wk qKS3.1 @ho ?_;refine Cb ?_ ?_<;>intro hc<;>(try exact ⟨⟩)
   .contradiction
   .refine Wk qKS3.1 @ho ?_;refine Za (i+1) (show i+1<=b.fills.length by omega) (by omega) (by refine Le.of (τ:=[]) (ν:=[]) (by kernel_rfl) ?_ ?_<;>((refine Lw qKS3.1 ?_;try exact ⟨⟩);try omega))
  .refine Wk qKS3.1 @ho ?_;refine AWp.loop (fun i:Nat=>mkSt [(2,.p 0 0),(3,.p 1 0),(6,I i)] [(0,.loc (bkC b)),(1,.loc (bkC b))] 2) (fun i=>i<=b.ids.length) (fun i=>b.ids.length - i) 0 (Nat.zero_le _) (by refine Le.of (τ:=[]) (ν:=[]) (by kernel_rfl) ?_ ?_<;>((refine Lw qKS3.1 ?_;try exact ⟨⟩);try (first|omega|rfl|exact ⟨rfl,rfl⟩))) fun i hi=>?_;refine Wk qKS3.1 @ho ?_;refine Cb ?_ ?_<;>intro hc<;>(try exact ⟨⟩)
   .have hil:i<b.ids.length:=by omega
    refine Wk qKS3.1 @ho ?_;refine Cb ?_ ?_<;>intro hc<;>(try exact ⟨⟩)
    .contradiction
    .refine Wk qKS3.1 @ho ?_;refine Za (i+1) (show i+1<=b.ids.length by omega) (by omega) (by refine Le.of (τ:=[]) (ν:=[]) (by kernel_rfl) ?_ ?_<;>((refine Lw qKS3.1 ?_;try exact ⟨⟩);try omega))
   .refine Wk qKS3.1 @ho ?_;refine Fn @results54 qKS3.1 ?_;try exact ⟨⟩
def qKS4:=PLift.up (An @getD_vR (An @beqT @Bool.and_true))
theorem sameG_c (g:Gat) (h:gatP g):ACall prog 19 [] [gtD g,gtD g] (B true) []:=by
 have hll:=h.lims.1;have hn:=h.n;have hl:=sameL_c g.lims (by omega);refine Ac func19 ?_;refine Wk qKS4.1 @hl ?_;refine Cb ?_ ?_<;>intro hc<;>(try exact ⟨⟩)
 .contradiction
 .refine Wk qKS4.1 @hl ?_;refine AWp.loop (fun i:Nat=>mkSt [(2,.p 0 0),(3,.p 1 0),(5,I i)] [(0,.loc (gtC g)),(1,.loc (gtC g))] 2) (fun i=>i<=g.vens.length) (fun i=>g.vens.length - i) 0 (Nat.zero_le _) (by refine Le.of (τ:=[(1,64)]) (ν:=[]) (by kernel_rfl) ?_ ?_<;>((refine Lw qKS4.1 ?_;try exact ⟨⟩);try (first|omega|rfl|exact ⟨rfl,rfl⟩))) fun i hi=>?_;refine Wk qKS4.1 @hl ?_;refine Cb ?_ ?_<;>intro hc<;>(try exact ⟨⟩)
  .have hil:i<g.vens.length:=by omega
   have hp:=h.vens _ (Ya hil);have hroom:=hp.room;have hfl:=hp.bk.fl;have hidl:=hp.bk.il;have hb:=sameB_c (g.vens.getD i default).bk (by omega) (by omega) (by omega);have ho:=sameO_c (g.vens.getD i default).sent (by omega);refine Wk qKS4.1 (An @hl (An @hb @ho)) ?_;refine Cb ?_ ?_<;>intro hc<;>(try exact ⟨⟩)
   .contradiction
   .refine Wk qKS4.1 (An @hl (An @hb @ho)) ?_;refine Za (i+1) (show i+1<=g.vens.length by omega) (by omega) (by refine Le.of (τ:=[]) (ν:=[]) (by kernel_rfl) ?_ ?_<;>((refine Lw qKS4.1 ?_;try exact ⟨⟩);try omega))
  .refine Wk qKS4.1 @hl ?_;refine Fn @results19 qKS4.1 ?_;try exact ⟨⟩
def shO (o:Ord):Bool:=decide (o.id.size<=100) && (decide (o.acc.size<=100) && decide (o.sym.size<=100))
theorem short_c (l:List Ord) (hl:l.length<=80) (r:Bool) (hr:l.all shO=r):ACall prog 15 [] [NO.osD l] (B r) []:=by
 refine Ac func15 ?_;refine Wk @NO.Ze trivial ?_;refine Cb ?_ ?_<;>intro hc<;>(try exact ⟨⟩)
 .omega
 .refine Wk @NO.Ze trivial ?_;refine AWp.loop (fun i:Nat=>mkSt [(0,NO.osD l),(3,I i)] [] 0) (fun i=>i<=l.length/\∀j,j<i->shO (l.getD j default)=true) (fun i=>l.length - i) 0 ⟨Nat.zero_le _,fun j h=>by omega⟩ (by refine Le.of (τ:=[]) (ν:=[]) (by kernel_rfl) ?_ ?_<;>((refine Lw @NO.Ze ?_;try exact ⟨⟩);try rfl)) fun i hi=>?_;obtain ⟨hi,hall⟩:=hi;refine Wk @NO.Ze trivial ?_;refine Cb ?_ ?_<;>intro hc<;>(try exact ⟨⟩)
  .have hil:i<l.length:=by omega
   refine Wk @NO.Ze trivial ?_;refine Cb ?_ ?_<;>intro hc<;>(try exact ⟨⟩)
   .have e:r=false:=by
     rw[<-hr,List.all_eq_false];refine ⟨l.getD i default,?_,fun h=>?_⟩
     .rw[List.getD_eq_getElem?_getD,List.getElem?_eq_getElem hil];exact List.getElem_mem hil
     .simp only[shO,Bool.and_eq_true,decide_eq_true_eq]at h;omega
    subst e;refine Wk @NO.Ze trivial ?_;refine Fn @results15 @NO.Ze ?_;try exact ⟨⟩
   .refine Wk @NO.Ze trivial ?_;refine Za (i+1) ⟨show i+1<=l.length by omega,fun j h=>?_⟩ (by omega) (by refine Le.of (τ:=[]) (ν:=[]) (by kernel_rfl) ?_ ?_<;>((refine Lw @NO.Ze ?_;try exact ⟨⟩);try omega));rcases Nat.lt_or_eq_of_le (Nat.le_of_lt_succ h) with h|rfl
    .exact hall j h
    .simp only[shO,Bool.and_eq_true,decide_eq_true_eq];omega
  .have e:r=true:=by
    rw[<-hr,List.all_eq_true];intro x hx;obtain ⟨j,h,rfl⟩:=List.getElem_of_mem hx;have:=hall j (by omega)
    rwa [List.getD_eq_getElem?_getD,List.getElem?_eq_getElem h]at this
   subst e;refine Wk @NO.Ze trivial ?_;refine Fn @results15 @NO.Ze ?_;try exact ⟨⟩
theorem whyL_new (l:List NA.Lim) (o:Ord) (w:Int×Int):whyL l (newO o) w=whyL l o w:=rfl
theorem shut_late {g:Gat} {o:Ord} (hp:g.pat=20) (hl:(vat g 0).last<=g.now - 21):(orderG g 0 o).1=g/\((orderG g 0 o).2.2≠0\/(orderG g 0 o).2.1≠0):=by
 unfold orderG
 split
 .exact ⟨rfl,.inl (by simp)⟩
 .split
  .exact ⟨rfl,.inl (by simp)⟩
  .split
   .rename_i hw;exact ⟨rfl,.inr hw⟩
   .rename_i hw;exfalso;obtain ⟨_,hs,_⟩:=why_st (stI_rng _ _ _).1 (Classical.not_not.1 hw);have:=(stI_zero hs).2.2.2.1;omega
def frId:ByteArray:=⟨#[102,114,101,115,104,48]⟩
def frX (v:Ven):Exe:=⟨frId,⟨#[]⟩,(v.sent.getD 0 default).id,(v.sent.getD 0 default).acc,(v.sent.getD 0 default).sym,1,(v.sent.getD 0 default).buy,(v.sent.getD 0 default).qty,(v.sent.getD 0 default).price,v.bk.clock⟩
structure opnP (g:Gat):Prop where
 sent:0<(vat g 0).sent.length
 bad:(vat g 0).bk.bad=0
 gap:(vat g 0).gap=false
 kill:g.kill=false
 room:(vat g 0).bk.ords.length+(vat g 0).sent.length<64
 ids:(vat g 0).bk.ids.length<255
 done:((vat g 0).sent.getD 0 default).done=0
theorem shut_take {g:Gat} (h:gatP g) (hp:opnP g):(takeS (vat g 0).bk (frX (vat g 0))).2=2 \/
 ((takeS (vat g 0).bk (frX (vat g 0))).2=1/\(takeS (vat g 0).bk (frX (vat g 0))).1.bad=0/\(takeS (vat g 0).bk (frX (vat g 0))).1.ids.length=(vat g 0).bk.ids.length+1/\(takeS (vat g 0).bk (frX (vat g 0))).1.ords.length=(vat g 0).bk.ords.length+1):=by
 have h0:isAt g 0:=⟨by decide,by have:=h.n.1;omega⟩
 have hv:=h.vens _ (vat_mem h0);generalize hV:vat g 0=v at hv ⊢;obtain ⟨h1,h2,_,_,h5,h6,h7⟩:=hp;rw[hV]at h1 h2 h5 h6 h7;have hm:=getD_memO h1;have hmay:=mem_may hv.sent _ hm;have hop:=(hv.op _ hm).2;unfold takeS;rw[if_neg (by omega)]
 split
 .exact .inl rfl
 .right
  have hnew:NO.newS v.bk.ords (nwX (frX v))=(v.bk.ords++[NO.nwO (nwX (frX v))],0):=by
   unfold NO.newS;rw[if_neg,if_neg,if_neg (by omega)]
   .have:NO.placeI v.bk.ords (v.sent.getD 0 default).id<0:=hasO_false.1 hop;have e:(nwX (frX v)).id=(v.sent.getD 0 default).id:=rfl;rw[e];omega
   .simp only[not_or,Bool.not_eq_false];refine ⟨hv.bk.ords,?_⟩;simp only[NO.mayB,Bool.and_eq_true,decide_eq_true_eq]at hmay;simp only[NO.mayB,NO.nwO,nwX,frX,Bool.and_eq_true,decide_eq_true_eq];obtain ⟨⟨⟨⟨⟨⟨a,b⟩,c⟩,d⟩,e⟩,f⟩,i⟩:=hmay;exact ⟨⟨⟨⟨⟨⟨a,b⟩,c⟩,d⟩,e⟩,decide_eq_true (Int.le_refl _)⟩,decide_eq_true (by rw[h7]at i;exact i)⟩
  have happ:applyS { v.bk with ids:=v.bk.ids++[(frX v).id] } (frX v)=({ v.bk with ids:=v.bk.ids++[(frX v).id],ords:=v.bk.ords++[NO.nwO (nwX (frX v))] },0):=by
   unfold applyS;rw[if_neg (by show ¬v.bk.clock<v.bk.clock;omega),if_pos (by rfl)];show (if (NO.newS v.bk.ords (nwX (frX v))).2=0 then _ else _)=_;rw[hnew,if_pos rfl]
  rw[happ,if_pos rfl];exact ⟨rfl,h2,by simp,by simp⟩
theorem shut_told {g:Gat} (h:gatP g) (hp:opnP g) (hx:exB (frX (vat g 0))=true) :
 ((toldG g 0 (frX (vat g 0))).2.1=2/\(toldG g 0 (frX (vat g 0))).2.2=0)\/((toldG g 0 (frX (vat g 0))).2.1=1/\(toldG g 0 (frX (vat g 0))).2.2=0 /\
   ∀o,(orderG (toldG g 0 (frX (vat g 0))).1 0 o).2.2≠0\/(orderG (toldG g 0 (frX (vat g 0))).1 0 o).2.1=whyL (toldG g 0 (frX (vat g 0))).1.lims o (worstG (toldG g 0 (frX (vat g 0))).1 o.acc o.sym)):=by
 have h0:isAt g 0:=⟨by decide,by have:=h.n.1;omega⟩
 have hv:=h.vens _ (vat_mem h0)
 have hs:sentI (vat g 0).sent (frX (vat g 0))=0:=by
  have key:∀v:Ven,0<v.sent.length->(v.sent.getD 0 default).done=0->sentI v.sent (frX v)=((0:Nat):Int):=fun v h1 h2=>fstI_some h1 (fun i hi=>by omega) (by
   generalize hs:v.sent.getD 0 default=s at h2
   simp only[sentP,frX,hs,h2,beq_self_eq_true,Bool.true_and,Bool.true_or])
  exact key _ hp.sent hp.done
 have ht:=shut_take h hp;unfold toldG;rw[if_neg (fun hh=>hh.elim (fun n=>n h0) (fun n=>by rw[hx]at n;cases n))];rcases ht with ht|⟨ht,hb,hi,ho⟩
 .rw[if_pos (.inl ht)];exact .inl ⟨ht,rfl⟩
 .right;rw[if_neg (by rw[ht];decide),if_neg (by rw[hs];omega),if_pos ht,if_pos (.inl rfl)];refine ⟨rfl,rfl,fun o=>?_⟩;dsimp only;generalize hV:({ vat g 0 with bk:=(takeS (vat g 0).bk (frX (vat g 0))).1,last:=g.now,sent:=(vat g 0).sent.eraseIdx (sentI (vat g 0).sent (frX (vat g 0))).toNat }:Ven)=v;have hlen:0<g.vens.length:=by have:=h.n.1;omega
  have hat:(setV g 0 v).vens.getD 0 default=v:=by
   show (g.vens.set 0 v).getD 0 default=v;rw[List.getD_eq_getElem?_getD,List.getElem?_set_self hlen];rfl
  have hnow:=h.now;have hpat:=h.pat
  have hst:stI v g.now g.pat=0:=by
   subst hV;unfold stI;dsimp only;have h1:((vat g 0).sent.eraseIdx (sentI (vat g 0).sent (frX (vat g 0))).toNat).length=(vat g 0).sent.length - 1:=List.length_eraseIdx_of_lt (by rw[hs];exact hp.sent);have h2:=hp.sent;have h3:=hp.room;have h4:=hp.ids;have h5:=hp.gap;have h6:=hpat.1;rw[if_neg (by omega),if_neg (by omega),if_neg (by omega),if_neg (by rw[h5];decide)]
  have hwhy:whyG (setV g 0 v) (0:Int).toNat (newO o)=whyL (setV g 0 v).lims o (worstG (setV g 0 v) o.acc o.sym):=by
   unfold whyG;have hk:(setV g 0 v).kill=false:=hp.kill
   have e:stI ((setV g 0 v).vens.getD (0:Int).toNat default) (setV g 0 v).now (setV g 0 v).pat=0:=by
    have:((0:Int).toNat)=0:=rfl;rw[this,hat];exact hst
   rw[if_neg (by rw[hk];decide),if_neg (by rw[e];decide),whyL_new];rfl
  unfold orderG
  split
  .exact .inl (by simp)
  .split
   .exact .inl (by simp)
   .split
    .exact .inr hwhy
    .rename_i hw;right;have hw:=Classical.not_not.1 hw;rw[hwhy]at hw;exact hw.symm
theorem limit_pat (g:Gat) (x:NA.Lim):(limitG g x).1.pat=g.pat:=by unfold limitG;split<;>rfl
theorem ask_pat (g:Gat) (a:Ask):(askG g a).1.pat=g.pat:=by
 unfold askG
 split
 .unfold orderG
  repeat' split
  all_goals rfl
 .split
  .unfold changeG
   repeat' split
   all_goals rfl
  .split
   .unfold toldG
    repeat' split
    all_goals rfl
   .split
    .unfold tickG
     split<;>rfl
    .split
     .rfl
     .split
      .unfold gapG
       split<;>rfl
      .split
       .unfold resetG
        repeat' split
        all_goals rfl
       .split
        .exact limit_pat _ _
        .rfl
theorem do_pat (k:Kee) (g:Gat) (a:Ask):(doK k g a).1.2.pat=g.pat:=by
 unfold doK
 split
 .rfl
 .split
  .rfl
  .split
   .rfl
   .exact ask_pat g a
abbrev aV (a:Ask):List V:=[vI a.kind,vI a.ven,vS a.o.id,vS a.o.acc,vS a.o.sym,vB a.o.buy,vI a.o.qty,vI a.o.price,vI a.o.done,vB a.o.op,vS a.id,
 vS a.x.id,vS a.x.ref,vS a.x.ord,vS a.x.acc,vS a.x.sym,vI a.x.kind,vB a.x.buy,vI a.x.qty,vI a.x.price,vI a.x.time,vI a.now,vB a.on,
 vS a.l.acc,vS a.l.sym,vI a.l.long,vI a.l.short,vI a.l.qty,vI a.l.value]
instance :Inhabited Ask:=⟨⟨0,0,default,default,⟨⟨#[]⟩,⟨#[]⟩,⟨#[]⟩,⟨#[]⟩,⟨#[]⟩,0,false,0,0,0⟩,0,false,default⟩⟩
abbrev aR (l:List Ask):List (List V):=l.map aV
abbrev asksD (l:List Ask):D:=.e (.c (.v (.s 29 (aR l))))
theorem getD_aR (l:List Ask) (i:Nat) (d:List V) (h:i<l.length):(l.map aV).getD i d=aV (l.getD i default):=by
 simp[List.getD_eq_getElem?_getD,h]
def qLS1:=PLift.up (An @getD_aR (An @NA.Zb (An @getD_vR @NO.Ze)))
theorem shut_run (hW:ACall prog 6 [] [] (B true) []) (l:List Ask) (o:Ord) (ls:List NA.Lim):ACall prog 4 [] [asksD l,NO.oD o,NA.lsD ls] (B true) []:=by
 obtain ⟨sb,hsb⟩:∃b,[o].all shO=b:=⟨_,rfl⟩
 have hs:=short_c [o] (by simp) sb hsb;have hnew:ACall prog 7 [] [I 1,I 20] (.t [.a (keC (newE 1 20) (newG 1 20)),.c (.v (vI 0))]) []:=knew_c 1 20 (by omega) (by omega) (by unfold timeP;omega);refine Ac func4 ?_;by_cases h24:24<l.length
 .have e24:decide ((24:Int)<(l.length:Int))=true:=decide_eq_true (by omega);refine Wk (An @e24 qLS1.1) (An @hW (An @hs @hnew)) ?_;refine Cb ?_ ?_<;>intro hc<;>(try exact ⟨⟩)
  .contradiction
  .refine Wk (An @e24 qLS1.1) (An @hW (An @hs @hnew)) ?_;refine Cb ?_ ?_<;>intro hc<;>(try exact ⟨⟩)
   .refine Wk (An @e24 qLS1.1) (An @hW (An @hs @hnew)) ?_;refine Fn @results4 (An @e24 qLS1.1) ?_;try exact ⟨⟩
   .contradiction
 .have e24:decide ((24:Int)<(l.length:Int))=false:=decide_eq_false (by omega);by_cases h6:6<ls.length
  .have e6:decide ((6:Int)<(ls.length:Int))=true:=decide_eq_true (by omega);refine Wk (An @e24 (An @e6 qLS1.1)) (An @hW (An @hs @hnew)) ?_;refine Cb ?_ ?_<;>intro hc<;>(try exact ⟨⟩)
   .contradiction
   .refine Wk (An @e24 (An @e6 qLS1.1)) (An @hW (An @hs @hnew)) ?_;refine Cb ?_ ?_<;>intro hc<;>(try exact ⟨⟩)
    .refine Wk (An @e24 (An @e6 qLS1.1)) (An @hW (An @hs @hnew)) ?_;refine Fn @results4 (An @e24 (An @e6 qLS1.1)) ?_;try exact ⟨⟩
    .contradiction
  .have e6:decide ((6:Int)<(ls.length:Int))=false:=decide_eq_false (by omega)
   cases sb with
   | false =>
    refine Wk (An @e24 (An @e6 qLS1.1)) (An @hW (An @hs @hnew)) ?_;refine Cb ?_ ?_<;>intro hc<;>(try exact ⟨⟩)
    .contradiction
    .refine Wk (An @e24 (An @e6 qLS1.1)) (An @hW (An @hs @hnew)) ?_;refine Cb ?_ ?_<;>intro hc<;>(try exact ⟨⟩)
     .refine Wk (An @e24 (An @e6 qLS1.1)) (An @hW (An @hs @hnew)) ?_;refine Fn @results4 (An @e24 (An @e6 qLS1.1)) ?_;try exact ⟨⟩
     .contradiction
   | true =>
    refine Wk (An @e24 (An @e6 qLS1.1)) (An @hW (An @hs @hnew)) ?_;refine Cb ?_ ?_<;>intro hc<;>(try exact ⟨⟩)
    .contradiction
    .refine Wk (An @e24 (An @e6 qLS1.1)) (An @hW (An @hs @hnew)) ?_;refine Cb ?_ ?_<;>intro hc<;>(try exact ⟨⟩)
     .contradiction
     .refine Wk (An @e24 (An @e6 qLS1.1)) (An @hW (An @hs @hnew)) ?_;have hk0:=newE_right 1 20;have hg0:gatP (newG 1 20):=newG_right (by omega) (by omega) (by unfold timeP;omega);have hp0:(newG 1 20).pat=20:=rfl
      refine AWp.loop (fun s:Nat×Gat=>mkSt [(0,asksD l),(2,NA.lsD ls),(4,.p 0 0),(7,.p 1 0),(8,I 0),(9,I s.1)] [(0,.loc (NO.oC o)),(1,.loc (keC (newE 1 20) s.2))] 2)
       (fun s=>s.1<=ls.length/\gatP s.2/\s.2.pat=20) (fun s=>ls.length - s.1) (0,newG 1 20) ⟨Nat.zero_le _,hg0,hp0⟩ (by refine Le.of (τ:=[(1,1408)]) (ν:=[]) (by kernel_rfl) ?_ ?_<;>((refine Lw (An @e24 (An @e6 qLS1.1)) ?_;try exact ⟨⟩);try (first|omega|rfl|exact ⟨rfl,rfl⟩))) fun s hs=>?_
      obtain ⟨i,g⟩:=s;obtain ⟨hi,hg,hp⟩:=hs;dsimp only at hi hg hp ⊢;refine Wk (An @e24 (An @e6 qLS1.1)) (An @hW (An @hs @hnew)) ?_;refine Cb ?_ ?_<;>intro hc<;>(try exact ⟨⟩)
      .have hil:i<ls.length:=by omega
       have hlim:=limit_c g (ls.getD i default) hg _ rfl;refine Wk (An @e24 (An @e6 qLS1.1)) (An @hW (An @hs (An @hnew @hlim))) ?_;refine Za (i+1,(limitG g (ls.getD i default)).1) ⟨by dsimp only;omega,limit_right hg,by rw[limit_pat];exact hp⟩ (by dsimp only;omega) (by refine Le.of (τ:=[]) (ν:=[]) (by kernel_rfl) ?_ ?_<;>((refine Lw (An @e24 (An @e6 qLS1.1)) ?_;try exact ⟨⟩);try omega))
      .refine Wk (An @e24 (An @e6 qLS1.1)) (An @hW (An @hs @hnew)) ?_
       refine AWp.loop (fun s:Nat×Kee×Gat=>mkSt [(0,asksD l),(4,.p 0 0),(7,.p 1 0),(8,I 0),(10,I s.1)] [(0,.loc (NO.oC o)),(1,.loc (keC s.2.1 s.2.2))] 2)
        (fun s=>s.1<=l.length/\keeP s.2.1/\gatP s.2.2/\s.2.2.pat=20) (fun s=>l.length - s.1) (0,newE 1 20,g) ⟨Nat.zero_le _,hk0,hg,hp⟩ (by refine Le.of (τ:=[]) (ν:=[]) (by kernel_rfl) ?_ ?_<;>((refine Lw (An @e24 (An @e6 qLS1.1)) ?_;try exact ⟨⟩);try (first|omega|rfl|exact ⟨rfl,rfl⟩))) fun s hs=>?_
       clear hk0 hg0 hp0 hg hp hi hc;obtain ⟨j,k,g⟩:=s;obtain ⟨hj,hk,hg,hp⟩:=hs;dsimp only at hj hk hg hp ⊢;refine Wk (An @e24 (An @e6 qLS1.1)) (An @hW (An @hs @hnew)) ?_;refine Cb ?_ ?_<;>intro hc<;>(try exact ⟨⟩)
       .have hjl:j<l.length:=by omega
        have hdo:=do_c k g (l.getD j default) hk hg _ rfl;have hpr:=doK_right (a:=l.getD j default) hk hg;refine Wk (An @e24 (An @e6 qLS1.1)) (An @hW (An @hs (An @hnew @hdo))) ?_;refine Za (j+1,(doK k g (l.getD j default)).1.1,(doK k g (l.getD j default)).1.2) ⟨by dsimp only;omega,hpr.1,hpr.2,by dsimp only;rw[do_pat];exact hp⟩ (by dsimp only;omega) (by refine Le.of (τ:=[]) (ν:=[]) (by kernel_rfl) ?_ ?_<;>((refine Lw (An @e24 (An @e6 qLS1.1)) ?_;try exact ⟨⟩);try omega))
       .have hgn:=hg.now;unfold timeP at hgn;refine Wk (An @e24 (An @e6 qLS1.1)) (An @hW (An @hs @hnew)) ?_;refine Cb ?_ ?_<;>intro hc<;>(try exact ⟨⟩)
        .refine Wk (An @e24 (An @e6 qLS1.1)) (An @hW (An @hs @hnew)) ?_;refine Fn @results4 (An @e24 (An @e6 qLS1.1)) ?_;try exact ⟨⟩
        .have hT:tickG g (g.now+21)=({ g with now:=g.now+21 },0):=by unfold tickG;rw[if_neg (by omega)]
         have htick:=tick_c g (g.now+21) hg _ hT;have hL:=tick_right (now:=g.now+21) hg;rw[hT]at hL
         have hll:(vat ({ g with now:=g.now+21 }:Gat) 0).last<=({ g with now:=g.now+21 }:Gat).now - 21:=by
          have:=(hg.vens _ (vat_mem (show isAt g 0 from ⟨by decide,by have:=hg.n.1;omega⟩))).last;show (vat g 0).last<=g.now+21 - 21;omega
         have hlp:({ g with now:=g.now+21 }:Gat).pat=20:=hp;dsimp only at htick hL;generalize ({ g with now:=g.now+21 }:Gat)=late at htick hL hll hlp;obtain ⟨q,hq⟩:∃q,orderG late 0 o=q:=⟨_,rfl⟩
         have hord:=order_c late 0 o hL q hq;have hsh:=shut_late (o:=o) hlp hll;rw[hq]at hsh;obtain ⟨q1,q2,q3⟩:=q;obtain ⟨h1,h2⟩:=hsh;dsimp only at h1 h2 hord;subst h1;have hsame:=sameG_c q1 hL;have hv0:0<q1.vens.length:=by have:=hL.n;omega
         refine Wk (An @e24 (An @e6 qLS1.1)) (An @hW (An @hs (An @hnew (An @htick (An @hord @hsame))))) ?_;refine Cb ?_ ?_<;>intro hc<;>(try exact ⟨⟩)
         .contradiction
         .refine Wk (An @e24 (An @e6 qLS1.1)) (An @hW (An @hs (An @hnew (An @htick (An @hord @hsame))))) ?_;refine Cb ?_ ?_<;>intro hc<;>(try exact ⟨⟩)
          .omega
          .refine Wk (An @e24 (An @e6 qLS1.1)) (An @hW (An @hs (An @hnew (An @htick (An @hord @hsame))))) ?_;refine Cb ?_ ?_<;>intro hc<;>(try exact ⟨⟩)
           .contradiction
           .refine Wk (An @e24 (An @e6 qLS1.1)) (An @hW (An @hs (An @hnew (An @htick (An @hord @hsame))))) ?_;refine Cb ?_ ?_<;>intro hc<;>(try exact ⟨⟩)
            .refine Wk (An @e24 (An @e6 qLS1.1)) (An @hW (An @hs (An @hnew (An @htick (An @hord @hsame))))) ?_;refine Fn @results4 (An @e24 (An @e6 qLS1.1)) ?_;try exact ⟨⟩
            .have hroom:=(hL.vens _ (Ya hv0)).room;rw[Zn _ (by omega) (by omega)]at hc;have hopn:=hc;have hsl:0<(q1.vens.getD 0 default).sent.length:=by omega
             obtain ⟨xb,hxb⟩:∃b,exB (frX (q1.vens.getD 0 default))=b:=⟨_,rfl⟩
             have hex:=mex_c (frX (q1.vens.getD 0 default)) xb hxb;refine Wk (An @e24 (An @e6 qLS1.1)) (An @hW (An @hs (An @hnew (An @htick (An @hord (An @hsame @hex)))))) ?_;refine Cb ?_ ?_<;>intro hc<;>(try exact ⟨⟩)
             .refine Wk (An @e24 (An @e6 qLS1.1)) (An @hW (An @hs (An @hnew (An @htick (An @hord (An @hsame @hex)))))) ?_;refine Fn @results4 (An @e24 (An @e6 qLS1.1)) ?_;try exact ⟨⟩
             .have hop:opnP q1:=by
               have hc1:=hc.1;clear hc;obtain ⟨⟨⟨⟨⟨a1,a2⟩,a3⟩,a4⟩,a5⟩,a6⟩:=hopn;exact ⟨hsl,a2,a3,a4,by show (q1.vens.getD 0 default).bk.ords.length+(q1.vens.getD 0 default).sent.length<64;omega,by show (q1.vens.getD 0 default).bk.ids.length<255;omega,hc1⟩
              have hxt:xb=true:=hc.2;have hs2:=shut_told hL hop (hxb.trans hxt);obtain ⟨z,hz⟩:∃z,toldG q1 0 (frX (q1.vens.getD 0 default))=z:=⟨_,rfl⟩
              have htold:=told_c q1 0 (frX (q1.vens.getD 0 default)) hL z hz;have hz1:gatP z.1:=hz ▸ told_right hL;have hs2:(z.2.1=2/\z.2.2=0)\/(z.2.1=1/\z.2.2=0/\∀o,(orderG z.1 0 o).2.2≠0\/(orderG z.1 0 o).2.1=whyL z.1.lims o (worstG z.1 o.acc o.sym)):=hz ▸ hs2;obtain ⟨z1,z2,z3⟩:=z;dsimp only at htold hz1 hs2;refine Wk (An @e24 (An @e6 qLS1.1)) (An @hW (An @hs (An @hnew (An @htick (An @hord (An @hsame (An @hex @htold))))))) ?_;refine Cb ?_ ?_<;>intro hc<;>(try exact ⟨⟩)
              .have:z2=2:=by omega
               subst this;refine Wk (An @e24 (An @e6 qLS1.1)) (An @hW (An @hs (An @hnew (An @htick (An @hord (An @hsame (An @hex @htold))))))) ?_;refine Fn @results4 (An @e24 (An @e6 qLS1.1)) ?_;try exact ⟨⟩
              .have hlast:=(hs2.resolve_left (by omega)).2.2 o;obtain ⟨y,hy⟩:∃y,orderG z1 0 o=y:=⟨_,rfl⟩
               rw[hy]at hlast;have hord2:=order_c z1 0 o hz1 y hy;have hworst:=gworst_c z1 o.acc o.sym hz1;have hsm:=vens_sm (a:=o.acc) (s:=o.sym) hz1 z1.vens.length;rw[List.take_length]at hsm;have hwhy:=lwhy_c z1.lims o (worstG z1 o.acc o.sym) hz1.lims (sm_ok hsm (by decide));obtain ⟨y1,y2,y3⟩:=y;dsimp only at hord2 hlast;generalize whyL z1.lims o (worstG z1 o.acc o.sym)=wl at hlast hwhy;generalize worstG z1 o.acc o.sym=ww at hworst hwhy;refine Wk (An @e24 (An @e6 qLS1.1)) (An @hord2 (An @hworst @hwhy)) ?_;refine Fn @results4 (An @e24 (An @e6 qLS1.1)) ?_;try exact ⟨⟩
               rcases hlast with h|h
               .have:(y3 != 0)=true:=by simpa using h
                rw[this];rfl
               .have:y2=wl:=h;rw[this];simp
section
open Go.ChangeShapes Go.WideShapes Go.ChangeAt Go.RowKit
theorem own_none:ownKnob prog.godebug=none:=by kernel_rfl
theorem laid_out:laidOutB prog=true:=by kernel_rfl
theorem Zj {P:Program} {off off':Nat} {t:TypeId} {fs:List (Nat×TypeId)} {A B:List V->Prop} (ho:off+P.cellsOf t=off') (h:Rd P t A) (hs:RdL P off' fs B):RdL P off ((off,t)::fs) fun vs=>∃a b,A a/\B b/\vs=a++b:=by
 subst ho;exact .cons h hs
theorem rd_i:Rd prog 2 fun vs=>∃n:Int,vs=[vI n]:=(rd_int (k:=.i64) (by kernel_rfl)).imp fun _ ⟨n,_,_,h⟩=>⟨n,h⟩
theorem rd_n:Rd prog 3 fun vs=>∃n:Int,vs=[vI n]:=(rd_int (k:=.i64) (by kernel_rfl)).imp fun _ ⟨n,_,_,h⟩=>⟨n,h⟩
theorem rd_s:Rd prog 9 fun vs=>∃s:ByteArray,vs=[vS s]:=(rd_string (by kernel_rfl)).imp fun _ ⟨s,_,h⟩=>⟨s,h⟩
theorem rd_b:Rd prog 4 fun vs=>∃b:Bool,vs=[vB b]:=(rd_bool (by kernel_rfl))
theorem rd_lim:Rd prog 48 fun vs=>∃x:NA.Lim,vs=NA.lV x:=by
 refine (rd_structL (l:=[(0,9),(1,9),(2,2),(3,2),(4,2),(5,2)]) (by kernel_rfl) (by kernel_rfl)
  (Zj (off':=1) (by kernel_rfl) rd_s (Zj (off':=2) (by kernel_rfl) rd_s (Zj (off':=3) (by kernel_rfl) rd_i (Zj (off':=4) (by kernel_rfl) rd_i (Zj (off':=5) (by kernel_rfl) rd_i (Zj (off':=6) (by kernel_rfl) rd_i (RdL.nil _)))))))).imp ?_
 rintro vs ⟨_,_,⟨a,rfl⟩,⟨_,_,⟨b,rfl⟩,⟨_,_,⟨c,rfl⟩,⟨_,_,⟨d,rfl⟩,⟨_,_,⟨e,rfl⟩,⟨_,_,⟨f,rfl⟩,rfl,rfl⟩,rfl⟩,rfl⟩,rfl⟩,rfl⟩,rfl⟩;exact ⟨⟨a,b,c,d,e,f⟩,rfl⟩
theorem arg_lims:ArgRd prog 33 fun x=>∃l:List NA.Lim,x=NA.lsD l:=by
 refine (arg_one (ds:=.slice 48) (by kernel_rfl) rfl (rd_slice (e:=48) (by kernel_rfl) rd_lim) (fun vs ⟨n,_,_,h⟩=>by rw[h];rfl)).imp ?_;rintro x ⟨a,⟨rows,hr,_,h⟩,rfl⟩;obtain ⟨l,hl,rfl,_⟩:=rows_map (f:=NA.lV) (Q:=fun _=>True) (rows:=rows) fun r h=>let ⟨o,e⟩:=hr r h;⟨o,trivial,e⟩;simp only[List.cons.injEq,and_true]at h;exact ⟨l,by rw[h,show prog.cellsOf 48=6 by kernel_rfl]⟩
abbrev oVv (o:Ord):List V:=[V.x (.string o.id),V.x (.string o.acc),V.x (.string o.sym),V.x (.bool o.buy),V.x (.int .i64 o.qty),V.x (.int .i64 o.price),V.x (.int .i64 o.done),V.x (.bool o.op)]
theorem rd_ord:Rd prog 44 fun vs=>∃o:Ord,vs=oVv o:=by
 refine (rd_structL (l:=[(0,9),(1,9),(2,9),(3,4),(4,2),(5,2),(6,2),(7,4)]) (by kernel_rfl) (by kernel_rfl)
  (Zj (off':=1) (by kernel_rfl) rd_s (Zj (off':=2) (by kernel_rfl) rd_s (Zj (off':=3) (by kernel_rfl) rd_s (Zj (off':=4) (by kernel_rfl) rd_b (Zj (off':=5) (by kernel_rfl) rd_i (Zj (off':=6) (by kernel_rfl) rd_i (Zj (off':=7) (by kernel_rfl) rd_i (Zj (off':=8) (by kernel_rfl) rd_b (RdL.nil _)))))))))).imp ?_
 rintro vs ⟨_,_,⟨a,rfl⟩,⟨_,_,⟨b,rfl⟩,⟨_,_,⟨c,rfl⟩,⟨_,_,⟨d,rfl⟩,⟨_,_,⟨e,rfl⟩,⟨_,_,⟨f,rfl⟩,⟨_,_,⟨g,rfl⟩,⟨_,_,⟨h,rfl⟩,rfl,rfl⟩,rfl⟩,rfl⟩,rfl⟩,rfl⟩,rfl⟩,rfl⟩,rfl⟩;exact ⟨⟨a,b,c,d,e,f,g,h⟩,rfl⟩
theorem arg_ord:ArgRd prog 44 fun x=>∃o:Ord,x=NO.oD o:=by
 refine (arg_struct (l:=[(0,9),(1,9),(2,9),(3,4),(4,2),(5,2),(6,2),(7,4)]) (by kernel_rfl) rd_ord).imp ?_;rintro x ⟨vs,⟨w,rfl⟩,rfl⟩;exact ⟨w,rfl⟩
theorem rd_exe:Rd prog 46 fun vs=>∃x:Exe,vs=[vS x.id,vS x.ref,vS x.ord,vS x.acc,vS x.sym,vI x.kind,vB x.buy,vI x.qty,vI x.price,vI x.time]:=by
 refine (rd_structL (l:=[(0,9),(1,9),(2,9),(3,9),(4,9),(5,3),(6,4),(7,2),(8,2),(9,2)]) (by kernel_rfl) (by kernel_rfl)
  (Zj (off':=1) (by kernel_rfl) rd_s (Zj (off':=2) (by kernel_rfl) rd_s (Zj (off':=3) (by kernel_rfl) rd_s (Zj (off':=4) (by kernel_rfl) rd_s (Zj (off':=5) (by kernel_rfl) rd_s (Zj (off':=6) (by kernel_rfl) rd_n (Zj (off':=7) (by kernel_rfl) rd_b (Zj (off':=8) (by kernel_rfl) rd_i (Zj (off':=9) (by kernel_rfl) rd_i (Zj (off':=10) (by kernel_rfl) rd_i (RdL.nil _)))))))))))).imp ?_
 rintro vs ⟨_,_,⟨a,rfl⟩,⟨_,_,⟨b,rfl⟩,⟨_,_,⟨c,rfl⟩,⟨_,_,⟨d,rfl⟩,⟨_,_,⟨e,rfl⟩,⟨_,_,⟨f,rfl⟩,⟨_,_,⟨g,rfl⟩,⟨_,_,⟨h,rfl⟩,⟨_,_,⟨i,rfl⟩,⟨_,_,⟨j,rfl⟩,rfl,rfl⟩,rfl⟩,rfl⟩,rfl⟩,rfl⟩,rfl⟩,rfl⟩,rfl⟩,rfl⟩,rfl⟩;exact ⟨⟨a,b,c,d,e,f,g,h,i,j⟩,rfl⟩
theorem rd_ask:Rd prog 50 fun vs=>∃a:Ask,vs=aV a:=by
 refine (rd_structL (l:=[(0,3),(1,3),(2,44),(10,9),(11,46),(21,2),(22,4),(23,48)]) (by kernel_rfl) (by kernel_rfl)
  (Zj (off':=1) (by kernel_rfl) rd_n (Zj (off':=2) (by kernel_rfl) rd_n (Zj (off':=10) (by kernel_rfl) rd_ord (Zj (off':=11) (by kernel_rfl) rd_s (Zj (off':=21) (by kernel_rfl) rd_exe (Zj (off':=22) (by kernel_rfl) rd_i (Zj (off':=23) (by kernel_rfl) rd_b (Zj (off':=29) (by kernel_rfl) rd_lim (RdL.nil _)))))))))).imp ?_
 rintro vs ⟨_,_,⟨a,rfl⟩,⟨_,_,⟨b,rfl⟩,⟨_,_,⟨c,rfl⟩,⟨_,_,⟨d,rfl⟩,⟨_,_,⟨e,rfl⟩,⟨_,_,⟨f,rfl⟩,⟨_,_,⟨g,rfl⟩,⟨_,_,⟨h,rfl⟩,rfl,rfl⟩,rfl⟩,rfl⟩,rfl⟩,rfl⟩,rfl⟩,rfl⟩,rfl⟩;exact ⟨⟨a,b,c,d,e,f,g,h⟩,rfl⟩
theorem arg_asks:ArgRd prog 22 fun x=>∃l:List Ask,x=asksD l:=by
 refine (arg_one (ds:=.slice 50) (by kernel_rfl) rfl (rd_slice (e:=50) (by kernel_rfl) rd_ask) (fun vs ⟨n,_,_,h⟩=>by rw[h];rfl)).imp ?_;rintro x ⟨a,⟨rows,hr,_,h⟩,rfl⟩;obtain ⟨l,hl,rfl,_⟩:=rows_map (f:=aV) (Q:=fun _=>True) (rows:=rows) fun r h=>let ⟨o,e⟩:=hr r h;⟨o,trivial,e⟩;simp only[List.cons.injEq,and_true]at h;exact ⟨l,by rw[h,show prog.cellsOf 50=29 by kernel_rfl]⟩
end
end Eng
end Go.Proofs.YtgenjpingdkmgaaGreatDoor
