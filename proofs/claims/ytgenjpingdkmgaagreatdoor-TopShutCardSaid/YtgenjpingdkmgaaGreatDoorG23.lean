/- Contracts of functions that this seat's law calls. No condition. -/
import Derived.Test.YtgenjpingdkmgaaGreatDoorG22
set_option maxRecDepth 100000
set_option linter.unusedSimpArgs false
set_option linter.unusedVariables false
namespace Go.Proofs.YtgenjpingdkmgaaGreatDoor
namespace Eng
namespace ND
def qDT41:=PLift.up (An @Zi @among2)
theorem has1_c (s0 t0 s1 t1:List Int):ACall Tryz.prog 155 [] [diskD s0 t0 s1 t1,I 1] (B true) []:=by
 refine Ac Tryz.func155 ?_
 refine Wk qDT41.1 trivial ?_
 first|exact Fn @Tryz.results155 qDT41.1 trivial|refine Fn @Tryz.results155 qDT41.1 ?_
 rfl
theorem concat2_c (a b:List Int) (h:a.length+b.length≤1000000):ACall Tryz.prog 156 [] [.e (.c (.v (.s 1 [[sB a],[sB b]])))] (SB (a++b)) []:=by
 have:=concat_c [a,b] (by simpa using h) (by simp)
 rw[show [a,b].flatten=a++b by simp]at this
 exact this
def qDT42:=PLift.up (An @right_c (An @has0_c (An @has1_c @concat2_c)))
theorem read0_c (s0 t0 s1 t1:List Int) (h:okD s0 t0 s1 t1):ACall Tryz.prog 137 [] [diskD s0 t0 s1 t1,I 0] (SB (s0++t0)) []:=by
 have hd1:=h.1
 have hd2:=h.2
 refine Ac Tryz.func137 ?_
 refine Wk qDT41.1 qDT42.1 ?_
 refine Cc ?_ ?_<;>intro hc<;>(try simp only[Za,ne_eq]at hc)
 ·simp at hc
 ·refine Wk qDT41.1 qDT42.1 ?_
  first|exact Fn @Tryz.results137 qDT41.1 trivial|refine Fn @Tryz.results137 qDT41.1 ?_
theorem read1_c (s0 t0 s1 t1:List Int) (h:okD s0 t0 s1 t1):ACall Tryz.prog 137 [] [diskD s0 t0 s1 t1,I 1] (SB (s1++t1)) []:=by
 have hd1:=h.1
 have hd2:=h.2
 refine Ac Tryz.func137 ?_
 refine Wk qDT41.1 qDT42.1 ?_
 refine Cc ?_ ?_<;>intro hc<;>(try simp only[Za,ne_eq]at hc)
 ·simp at hc
 ·refine Wk qDT41.1 qDT42.1 ?_
  first|exact Fn @Tryz.results137 qDT41.1 trivial|refine Fn @Tryz.results137 qDT41.1 ?_
end ND
namespace ND
abbrev resD (s0 t0 s1 t1:List Int) (e:Int):D:=.t [.a (arrD s0 t0 s1 t1),.c (.v (vI e))]
def qDT52:=PLift.up (An @own_c (An @right_c (An @has0_c (An @has1_c (An @concat2_c (An @read0_c (An @read1_c @clone_c)))))))
def qDT51:=PLift.up (An @Zi (An @among2 @take_m))
theorem sync0_c (s0 t0 s1 t1:List Int) (h:okD s0 t0 s1 t1):ACall Tryz.prog 193 [] [diskD s0 t0 s1 t1,I 0] (resD (s0++t0) [] s1 t1 0) []:=by
 have hd1:=h.1
 have hd2:=h.2
 obtain ⟨h1,h2⟩:=id h
 refine Ac Tryz.func193 ?_
 refine Wk qDT51.1 qDT52.1 ?_
 refine Cc ?_ ?_<;>intro hc<;>(try simp only[Za,ne_eq]at hc)
 ·simp at hc
 ·refine Wk qDT51.1 qDT52.1 ?_
  first|exact Fn @Tryz.results193 qDT51.1 trivial|refine Fn @Tryz.results193 qDT51.1 ?_
theorem write0_c (s0 t0 s1 t1 b:List Int) (h:okD s0 t0 s1 t1) (hb:s0.length+t0.length+b.length≤65536):ACall Tryz.prog 99 [] [diskD s0 t0 s1 t1,I 0,SB b] (resD s0 (t0++b) s1 t1 0) []:=by
 have hd1:=h.1
 have hd2:=h.2
 obtain ⟨h1,h2⟩:=id h
 refine Ac Tryz.func99 ?_
 refine Wk qDT51.1 qDT52.1 ?_
 refine Cc ?_ ?_<;>intro hc<;>(try simp only[Za,ne_eq]at hc)
 ·simp at hc
 ·refine Wk qDT51.1 qDT52.1 ?_
  refine Cc ?_ ?_<;>intro hc<;>(try simp only[Za,ne_eq]at hc)
  ·omega
  ·refine Wk qDT51.1 qDT52.1 ?_
   first|exact Fn @Tryz.results99 qDT51.1 trivial|refine Fn @Tryz.results99 qDT51.1 ?_
theorem cut0_c (s0 t0 s1 t1:List Int) (n:Nat) (h:okD s0 t0 s1 t1) (hn:n≤s0.length+t0.length):ACall Tryz.prog 139 [] [diskD s0 t0 s1 t1,I 0,I n] (resD ((s0++t0).take n) [] s1 t1 0) []:=by
 have hd1:=h.1
 have hd2:=h.2
 obtain ⟨h1,h2⟩:=id h
 refine Ac Tryz.func139 ?_
 refine Wk qDT51.1 qDT52.1 ?_
 refine Cc ?_ ?_<;>intro hc<;>(try simp only[Za,ne_eq]at hc)
 ·simp at hc
 ·refine Wk qDT51.1 qDT52.1 ?_
  refine Cc ?_ ?_<;>intro hc<;>(try simp only[Za,ne_eq]at hc)
  ·simp at hc;omega
  ·refine Wk qDT51.1 qDT52.1 ?_
   first|exact Fn @Tryz.results139 qDT51.1 trivial|refine Fn @Tryz.results139 qDT51.1 ?_
end ND
namespace ND
def gb (gen:Int) (i:Nat):Int:=gen / 2 ^ (56 - 8*i) % 256
def gbs (gen:Int) (i:Nat):List Int:=71::(List.range i).map (gb gen)
theorem gbs_len (gen:Int) (i:Nat):(gbs gen i).length=i+1:=by simp[gbs]
theorem gbs_succ (gen:Int) (i:Nat):gbs gen (i+1)=gbs gen i++[gb gen i]:=by
 rw[gbs,gbs,List.range_succ,List.map_append];rfl
def first (gen:Int) (snap:List Int):List Int:=gbs gen 8++snap
theorem first_len (gen:Int) (snap:List Int):(first gen snap).length=9+snap.length:=by rw[first,List.length_append,gbs_len]
theorem firstF (gen:Int) (snap:List Int):gbs gen 8++snap=first gen snap:=rfl
theorem take_first (gen:Int) (snap:List Int):List.take (9+snap.length) ((first gen snap).map fun n=>[V.x (.int .u8 n)])=(first gen snap).map fun n=>[V.x (.int .u8 n)]:=List.take_of_length_le (by rw[List.length_map,first_len];exact Nat.le_refl _)
theorem take_gbs (gen:Int) (i:Nat):(rB (gbs gen i)).take (i+1)=rB (gbs gen i):=List.take_of_length_le (by rw[List.length_map,gbs_len];exact Nat.le_refl _)
theorem take_gbs8 (gen:Int):(rB (gbs gen 8)).take 9=rB (gbs gen 8):=take_gbs gen 8
theorem app_u8 (xs ys:List Int):(xs.map fun n=>[V.x (.int .u8 n)])++(ys.map fun n=>[V.x (.int .u8 n)])=(xs++ys).map fun n=>[V.x (.int .u8 n)]:=List.map_append.symm
theorem u8_mod (x:Int):IntKind.u8.wrap x=x % 256:=by
 simp only[IntKind.wrap,IntKind.bits,IntKind.signed]
 simp
theorem gb_eq (gen:Int) (i:Nat) (h:i≤7):IntKind.u8.wrap (gen.fdiv (2 ^ min (56 - 8*(i:Int)).toNat IntKind.i64.bits))=gb gen i:=by
 have e:min (56 - 8*(i:Int)).toNat IntKind.i64.bits=56 - 8*i:=by
  rw[show (56 - 8*(i:Int)).toNat=56 - 8*i by omega]
  exact Nat.min_eq_left (by show 56 - 8*i≤64;omega)
 rw[e,u8_mod,Int.fdiv_eq_ediv_of_nonneg _ (Int.le_of_lt (Int.pow_pos (by omega)))]
 rfl
def qDJ21:=PLift.up (An @app_u8 (An @gbs_len (An @take_gbs (An @take_gbs8 (An @List.length_map.{0,0} (An @first_len (An @firstF (An @take_first (An @List.length_append.{0} @List.length_singleton.{0})))))))))
theorem begin0_c (s0 t0 s1 t1:List Int) (gen:Int) (snap:List Int) (h:okD s0 t0 s1 t1) (hs:snap.length≤4000):ACall Tryz.prog 138 [] [diskD s0 t0 s1 t1,I 0,I gen,SB snap] (resD (put (first gen snap)) [] s1 t1 0) []:=by
 have hd1:=h.1
 have hd2:=h.2
 have hfl:=first_len gen snap
 have hput:=put_c (first gen snap) (by omega) (by omega)
 have hpl:=put_len (first gen snap)
 generalize put (first gen snap)=rec at hput hpl ⊢
 have hcut:=cut0_c s0 t0 s1 t1 0 h (Nat.zero_le _)
 rw[List.take_zero]at hcut
 have hok:okD [] [] s1 t1:=⟨by simp,h.2⟩
 have hwrite:=write0_c [] [] s1 t1 rec hok (by simp only[List.length_nil];omega)
 rw[List.nil_append]at hwrite
 have hok2:okD [] rec s1 t1:=⟨by simp only[List.length_nil];omega,h.2⟩
 have hsync:=sync0_c [] rec s1 t1 hok2
 rw[List.nil_append]at hsync
 have hsh:True:=trivial
 refine Ac Tryz.func138 ?_
 refine Wk (An @hsh qDJ21.1) (An @hput (An @hcut (An @hwrite @hsync))) ?_
 refine AWp.loop (τ:=ren [(1,64),(2,192)]) (fun i:Nat=>mkSt [(1,I 0),(2,I gen),(3,SB snap),(4,.p 0 0),(8,.p 1 0),(10,.e (.c (.o 2 (i+1)))),(11,I (56 - 8*(i:Int)))] [(0,.loc (arrD s0 t0 s1 t1)),(1,.loc [nilC,nilC,nilC,nilC]),(2,.row 1 (rB (gbs gen i)))] 3)
  (fun i=>i≤8) (fun i=>8 - i) 0 (Nat.zero_le _) (by refine Le.of (ν:=[]) (by kernel_rfl) ?_ ?_<;>((refine Lv (An @hsh qDJ21.1) fun eE=>?_;first|exact Lw (@Box.out _ eE) trivial|refine Lw (@Box.out _ eE) ?_);try rfl)) fun i hi=>?_
 refine Wk (An @hsh qDJ21.1) (An @hput (An @hcut (An @hwrite @hsync))) ?_
 refine Cc ?_ ?_<;>intro hc<;>(try simp only[Za,ne_eq]at hc)
 ·have hsh:=gb_eq gen i (by omega)
  have hgs:=gbs_succ gen i
  refine Wk (An @hsh qDJ21.1) (An @hput (An @hcut (An @hwrite @hsync))) ?_
  refine Zb (τ:=ren [(2,515)]) (ν:=[]) (i+1) (by omega) (by omega) ?_
  refine Le.of (by kernel_rfl) ?_ ?_<;>((refine Lv (An @hsh qDJ21.1) fun eE=>?_;first|exact Lw (@Box.out _ eE) trivial|refine Lw (@Box.out _ eE) ?_);try omega)
  rw[hgs];simp only[List.map_append];rfl
 ·obtain rfl:i=8:=by omega
  refine Wk (An @hsh qDJ21.1) (An @hput (An @hcut (An @hwrite @hsync))) ?_
  refine Cc ?_ ?_<;>intro hc<;>(try simp only[Za,ne_eq]at hc)
  ·contradiction
  ·refine Wk (An @hsh qDJ21.1) (An @hput (An @hcut (An @hwrite @hsync))) ?_
   refine Cc ?_ ?_<;>intro hc<;>(try simp only[Za,ne_eq]at hc)
   ·contradiction
   ·refine Wk (An @hsh qDJ21.1) (An @hput (An @hcut (An @hwrite @hsync))) ?_
    refine Cc ?_ ?_<;>intro hc<;>(try simp only[Za,ne_eq]at hc)
    ·contradiction
    ·refine Wk (An @hsh qDJ21.1) (An @hput (An @hcut (An @hwrite @hsync))) ?_
     first|exact Fn @Tryz.results138 (An @hsh qDJ21.1) trivial|refine Fn @Tryz.results138 (An @hsh qDJ21.1) ?_
end ND
namespace ND
abbrev jA (s0 t0 s1 t1:List Int) (at_ gen:Int):List C:=[.v (sB s0),.v (sB t0),.v (sB s1),.v (sB t1),.v (vI at_),.v (vI gen)]
abbrev jD (s0 t0 s1 t1:List Int) (at_ gen:Int):D:=.e (.a (jA s0 t0 s1 t1 at_ gen))
def qDJ31:=PLift.up (An @has0_c (An @has1_c @clone_c))
theorem may_c (s0 t0 s1 t1:List Int) (at_ gen:Int) (h:okD s0 t0 s1 t1) (ha:at_=0∨at_=1) (hg:1≤gen) (hg2:gen≤4611686018427387904):ACall Tryz.prog 96 [] [jD s0 t0 s1 t1 at_ gen] (B true) []:=by
 have hd1:=h.1
 have hd2:=h.2
 have hright:=right_c s0 t0 s1 t1 h
 have hown:True:=trivial
 refine Ac Tryz.func96 ?_
 refine Wk @among2 (An @hright (An @hown qDJ31.1)) ?_
 first|exact Fn @Tryz.results96 @among2 trivial|refine Fn @Tryz.results96 @among2 ?_
 (rw[Bool.eq_iff_iff];simp only[Za,ne_eq,true_iff,iff_true,Bool.true_and,Bool.and_true,Bool.false_and,Bool.and_false];try omega)
theorem ownJ_c (s0 t0 s1 t1:List Int) (at_ gen:Int) (h:okD s0 t0 s1 t1):ACall Tryz.prog 97 [] [jD s0 t0 s1 t1 at_ gen] (jD s0 t0 s1 t1 at_ gen) []:=by
 have hd1:=h.1
 have hd2:=h.2
 have hright:True:=trivial
 have hown:True:=trivial
 obtain ⟨h0,h1⟩:=h
 refine Ac Tryz.func97 ?_
 refine Wk @among2 (An @hright (An @hown qDJ31.1)) ?_
 refine AWp.loop (τ:=ren [(1,64)]) (fun k:Int=>mkSt [(1,.p 0 0),(2,.p 1 0),(7,.e (.a (arrD s0 t0 s1 t1))),(8,I k)] [(0,.loc (jA s0 t0 s1 t1 at_ gen)),(1,.loc [nilC,nilC,nilC,nilC,.v (vI 0),.v (vI 0)])] 2)
  (fun k=>k=0∨k=1∨k=2) (fun k=>(2 - k).toNat) 0 (.inl rfl) (by refine Le.of (ν:=[]) (by kernel_rfl) ?_ ?_<;>(refine Lv @among2 fun eE=>?_;first|exact Lw (@Box.out _ eE) trivial|refine Lw (@Box.out _ eE) ?_)) fun k hk=>?_
 rcases hk with rfl|rfl|rfl
 ·refine Wk @among2 (An @hright (An @hown qDJ31.1)) ?_
  refine Cc ?_ ?_<;>intro hc<;>(try simp only[Za,ne_eq]at hc)
  ·refine Wk @among2 (An @hright (An @hown qDJ31.1)) ?_
   refine Zb 1 (.inr (.inl rfl)) (by omega) (by refine Le.of (τ:=[]) (ν:=[]) (by kernel_rfl) ?_ ?_<;>((refine Lv @among2 fun eE=>?_;first|exact Lw (@Box.out _ eE) trivial|refine Lw (@Box.out _ eE) ?_);try omega))
  ·omega
 ·refine Wk @among2 (An @hright (An @hown qDJ31.1)) ?_
  refine Cc ?_ ?_<;>intro hc<;>(try simp only[Za,ne_eq]at hc)
  ·refine Wk @among2 (An @hright (An @hown qDJ31.1)) ?_
   refine Zb 2 (.inr (.inr rfl)) (by omega) (by refine Le.of (τ:=[]) (ν:=[]) (by kernel_rfl) ?_ ?_<;>((refine Lv @among2 fun eE=>?_;first|exact Lw (@Box.out _ eE) trivial|refine Lw (@Box.out _ eE) ?_);try omega))
  ·omega
 ·refine Wk @among2 (An @hright (An @hown qDJ31.1)) ?_
  refine Cc ?_ ?_<;>intro hc<;>(try simp only[Za,ne_eq]at hc)
  ·omega
  ·refine Wk @among2 (An @hright (An @hown qDJ31.1)) ?_
   first|exact Fn @Tryz.results97 @among2 trivial|refine Fn @Tryz.results97 @among2 ?_
theorem rightNo_c (s0 t0 s1 t1:List Int) (h:¬okD s0 t0 s1 t1) (h0:s0.length≤70000) (h1:t0.length≤70000) (h2:s1.length≤70000) (h3:t1.length≤70000):ACall Tryz.prog 135 [] [diskD s0 t0 s1 t1] (B false) []:=by
 have hright:True:=trivial
 have hown:True:=trivial
 refine Ac Tryz.func135 ?_
 refine Wk @among2 (An @hright (An @hown qDJ31.1)) ?_
 refine AWp.loop (fun k:Int=>mkSt [(1,.p 0 0),(6,.e (.a (arrD s0 t0 s1 t1))),(7,I k)] [(0,.loc (arrD s0 t0 s1 t1))] 1)
  (fun k=>k=0∨(k=1∧s0.length+t0.length≤65536)) (fun k=>(2 - k).toNat) 0 (.inl rfl) (by refine Le.of (τ:=[]) (ν:=[]) (by kernel_rfl) ?_ ?_<;>((refine Lv @among2 fun eE=>?_;first|exact Lw (@Box.out _ eE) trivial|refine Lw (@Box.out _ eE) ?_);try omega)) fun k hk=>?_
 rcases hk with rfl|⟨rfl,hk⟩
 ·refine Wk @among2 (An @hright (An @hown qDJ31.1)) ?_
  refine Cc ?_ ?_<;>intro hc<;>(try simp only[Za,ne_eq]at hc)
  ·refine Wk @among2 (An @hright (An @hown qDJ31.1)) ?_
   refine Cc ?_ ?_<;>intro hc<;>(try simp only[Za,ne_eq]at hc)
   ·refine Wk @among2 (An @hright (An @hown qDJ31.1)) ?_
    first|exact Fn @Tryz.results135 @among2 trivial|refine Fn @Tryz.results135 @among2 ?_
   ·refine Wk @among2 (An @hright (An @hown qDJ31.1)) ?_
    refine Zb 1 (.inr ⟨rfl,by omega⟩) (by omega) (by refine Le.of (τ:=[]) (ν:=[]) (by kernel_rfl) ?_ ?_<;>((refine Lv @among2 fun eE=>?_;first|exact Lw (@Box.out _ eE) trivial|refine Lw (@Box.out _ eE) ?_);try omega))
  ·omega
 ·refine Wk @among2 (An @hright (An @hown qDJ31.1)) ?_
  refine Cc ?_ ?_<;>intro hc<;>(try simp only[Za,ne_eq]at hc)
  ·refine Wk @among2 (An @hright (An @hown qDJ31.1)) ?_
   refine Cc ?_ ?_<;>intro hc<;>(try simp only[Za,ne_eq]at hc)
   ·refine Wk @among2 (An @hright (An @hown qDJ31.1)) ?_
    first|exact Fn @Tryz.results135 @among2 trivial|refine Fn @Tryz.results135 @among2 ?_
   ·exact absurd ⟨hk,by omega⟩ h
  ·omega
theorem writex0_c (s0 t0 s1 t1 b:List Int) (h:okD s0 t0 s1 t1) (hb:65536<s0.length+t0.length+b.length) (hb2:b.length≤1000000):ACall Tryz.prog 99 [] [diskD s0 t0 s1 t1,I 0,SB b] (resD s0 t0 s1 t1 5) []:=by
 have hd1:=h.1
 have hd2:=h.2
 have hright:=right_c s0 t0 s1 t1 h
 have hown:=own_c s0 t0 s1 t1 (by have:=h.1;omega) (by have:=h.1;omega) (by have:=h.2;omega) (by have:=h.2;omega)
 obtain ⟨h0,h1⟩:=h
 refine Ac Tryz.func99 ?_
 refine Wk @among2 (An @hright (An @hown qDJ31.1)) ?_
 refine Cc ?_ ?_<;>intro hc<;>(try simp only[Za,ne_eq]at hc)
 ·contradiction
 ·refine Wk @among2 (An @hright (An @hown qDJ31.1)) ?_
  refine Cc ?_ ?_<;>intro hc<;>(try simp only[Za,ne_eq]at hc)
  ·refine Wk @among2 (An @hright (An @hown qDJ31.1)) ?_
   first|exact Fn @Tryz.results99 @among2 trivial|refine Fn @Tryz.results99 @among2 ?_
  ·omega
end ND
namespace ND
instance (f:List Int):Decidable (goodF f):=by unfold goodF;exact inferInstance
def lookF (b:List Int):Option (Int×List Int×List (List Int)×Nat) :=
 match (all b).1 with
 | []=>none
 | f::rest=>if goodF f then some (genL (g8 f),f.drop 9,rest,(all b).2) else none
theorem all_mem (b:List Int) (hb:Byt b):∀r,r∈(all b).1→Byt r∧1≤r.length∧r.length≤4096:=by
 generalize hn:b.length=n
 induction n using Nat.strongRecOn generalizing b with
 | ind n ih =>
  obtain ⟨⟨r,m,e⟩,hnx⟩:∃q,next b=q:=⟨_,rfl⟩
  by_cases he:e=0
  ·subst he
   have hp:=(next_pos _ _ _ _ hnx).1 rfl
   rw[all_ok hnx]
   intro x hx
   rcases List.mem_cons.1 hx with rfl|hx
   ·unfold next at hnx
    repeat' split at hnx
    all_goals first
     | (exfalso;cases hnx;done)
     | (cases hnx
        refine ⟨byt_drop (byt_take hb _) _,?_,?_⟩<;>(rw[nextR,List.length_drop,List.length_take];omega))
   ·exact ih (b.drop m.toNat).length (by rw[List.length_drop];omega) _ (byt_drop hb _) rfl x hx
  ·rw[all_no hnx he]
   intro x hx
   cases hx
theorem lookNone_c (b:List Int) (hb:Byt b) (hlen:b.length≤1000000) (h:lookF b=none):ACall Tryz.prog 136 [] [SB b] (.t [.a cZ,.c (.v (.x (.bool false)))]) []:=by
 unfold lookF at h
 have hm:=all_mem b hb
 match ha:(all b).1 with
 | []=>exact lookNone0_c b hb hlen ha
 | f::rest =>
  rw[ha]at h hm
  have hf:=(hm f (List.mem_cons_self ..)).1
  simp only[]at h
  split at h
  ·cases h
  ·rename_i hg
   by_cases h9:9≤f.length∧f.getD 0 0=71
   ·exact lookBad_c b f rest hb hf hlen ha h9.1 h9.2 (by
     have:¬(1≤genL (g8 f)∧genL (g8 f)≤4611686018427387904):=fun x=>hg ⟨h9.1,h9.2,x.1,x.2⟩
     omega)
   ·exact lookNone1_c b f rest hb hlen ha h9
abbrev resO (A:List C) (sn:List Int) (en:List (List Int)):D:=.t [.a A,.c (.v (sB sn)),.c (.v (.s 1 (rSS en))),.c (.v (vI 0))]
abbrev jZ:List C:=[nilC,nilC,nilC,nilC,.v (vI 0),.v (vI 0)]
def qDJ41:=PLift.up (An @List.getD_nil.{0} (An @Bool.true_and @Bool.and_true))
theorem openN_c (s0 t0 s1 t1:List Int) (hl0:lookF (s0++t0)=none) (hl1:lookF (s1++t1)=none) (hb0:Byt (s0++t0)) (hb1:Byt (s1++t1)) (h:okD s0 t0 s1 t1):ACall Tryz.prog 81 [] [diskD s0 t0 s1 t1] (resO (jA (put (first 1 [])) [] s1 t1 0 1) [] []) []:=by
 have hd1:=h.1
 have hd2:=h.2
 have hright:=right_c s0 t0 s1 t1 h
 have hread0:=read0_c s0 t0 s1 t1 h
 have hread1:=read1_c s0 t0 s1 t1 h
 have hlen0:(s0++t0).length≤65536:=by rw[List.length_append];exact h.1
 have hlen1:(s1++t1).length≤65536:=by rw[List.length_append];exact h.2
 have hlook0:=lookNone_c _ hb0 (by omega) hl0
 have hlook1:=lookNone_c _ hb1 (by omega) hl1
 have hcut:=(begin0_c s0 t0 s1 t1 1 [] h (by simp)).args (bs:=[diskD s0 t0 s1 t1,I 0,I 1,.e (.c (.v (.x (.slice none 0 0))))]) (by simp only[q_P,q_VLe,q_cells,List.map_nil,and_self,and_true,true_and,eq_self])
 generalize s0++t0=b0 at *
 generalize s1++t1=b1 at *
 refine Ac Tryz.func81 ?_
 refine Wk qDJ41.1 (An @hright (An @hread0 (An @hread1 (An @hlook0 (An @hlook1 @hcut))))) ?_
 refine Cc ?_ ?_<;>intro hc<;>(try simp only[Za,ne_eq]at hc)
 ·contradiction
 ·refine Wk qDJ41.1 (An @hright (An @hread0 (An @hread1 (An @hlook0 (An @hlook1 @hcut))))) ?_
  refine AWp.loop (τ:=ren [(1,64),(2,576)]) (fun k:Int=>mkSt [(1,.p 0 0),(2,.p 1 0),(6,I (if k=0 then -1 else if k=1 then -1 else -1)),(7,.p 2 0),(16,I k)] [(0,.loc (arrD s0 t0 s1 t1)),(1,.loc jZ),(2,.loc (if k=0 then cZ else if k=1 then cZ else cZ))] 3)
   (fun k=>k=0∨k=1∨k=2) (fun k=>(2 - k).toNat) 0 (.inl rfl) (by refine Le.of (ν:=[]) (by kernel_rfl) ?_ ?_<;>((first|exact Lw qDJ41.1 trivial|refine Lw qDJ41.1 ?_);try rfl)) fun k hk=>?_
  rcases hk with rfl|rfl|rfl
  ·simp only[if_true]
   refine Wk qDJ41.1 (An @hright (An @hread0 (An @hread1 (An @hlook0 (An @hlook1 @hcut))))) ?_
   refine Cc ?_ ?_<;>intro hc<;>(try simp only[Za,ne_eq]at hc)
   ·refine Wk qDJ41.1 (An @hright (An @hread0 (An @hread1 (An @hlook0 (An @hlook1 @hcut))))) ?_
    refine Cc ?_ ?_<;>intro hc<;>(try simp only[Za,ne_eq]at hc)
    ·first|omega|(simp at hc;done)|(simp at hc;omega)|contradiction
    ·skip
     refine Wk qDJ41.1 (An @hright (An @hread0 (An @hread1 (An @hlook0 (An @hlook1 @hcut))))) ?_
     refine Zb (τ:=ren []) (ν:=[]) 1 (.inr (.inl rfl)) (by omega) (by refine Le.of (by kernel_rfl) ?_ ?_<;>((first|exact Lw qDJ41.1 trivial|refine Lw qDJ41.1 ?_);try rfl))
   ·first|omega|contradiction|exact absurd trivial hc
  ·simp only[Int.reduceEq,if_true,if_false]
   refine Wk qDJ41.1 (An @hright (An @hread0 (An @hread1 (An @hlook0 (An @hlook1 @hcut))))) ?_
   refine Cc ?_ ?_<;>intro hc<;>(try simp only[Za,ne_eq]at hc)
   ·refine Wk qDJ41.1 (An @hright (An @hread0 (An @hread1 (An @hlook0 (An @hlook1 @hcut))))) ?_
    refine Cc ?_ ?_<;>intro hc<;>(try simp only[Za,ne_eq]at hc)
    ·first|omega|(simp at hc;done)|(simp at hc;omega)|contradiction
    ·skip
     refine Wk qDJ41.1 (An @hright (An @hread0 (An @hread1 (An @hlook0 (An @hlook1 @hcut))))) ?_
     refine Zb (τ:=ren []) (ν:=[]) 2 (.inr (.inr rfl)) (by omega) (by refine Le.of (by kernel_rfl) ?_ ?_<;>((first|exact Lw qDJ41.1 trivial|refine Lw qDJ41.1 ?_);try rfl))
   ·first|omega|contradiction|exact absurd trivial hc
  ·simp only[Int.reduceEq,if_false]
   refine Wk qDJ41.1 (An @hright (An @hread0 (An @hread1 (An @hlook0 (An @hlook1 @hcut))))) ?_
   refine Cc ?_ ?_<;>intro hc<;>(try simp only[Za,ne_eq]at hc)
   ·first|omega|contradiction
   ·refine Wk qDJ41.1 (An @hright (An @hread0 (An @hread1 (An @hlook0 (An @hlook1 @hcut))))) ?_
    refine Cc ?_ ?_<;>intro hc<;>(try simp only[Za,ne_eq]at hc)
    ·skip
     refine Wk qDJ41.1 (An @hright (An @hread0 (An @hread1 (An @hlook0 (An @hlook1 @hcut))))) ?_
     refine Cc ?_ ?_<;>intro hc<;>(try simp only[Za,ne_eq]at hc)
     ·first|omega|(simp at hc;done)|(simp at hc;omega)|contradiction
     ·skip
      refine Wk qDJ41.1 (An @hright (An @hread0 (An @hread1 (An @hlook0 (An @hlook1 @hcut))))) ?_
      first|exact Fn @Tryz.results81 qDJ41.1 trivial|refine Fn @Tryz.results81 qDJ41.1 ?_
    ·first|omega|(simp at hc;done)|(simp at hc;omega)|contradiction
end ND
namespace ND
abbrev jE (A:List C) (e:Int):D:=.t [.a A,.c (.v (vI e))]
theorem addBad_c (s0 t0 s1 t1:List Int) (at_ gen:Int) (b:List Int) (h:okD s0 t0 s1 t1) (ha:at_=0∨at_=1) (hg:1≤gen) (hg2:gen≤4611686018427387904) (hb:b.length<1):ACall Tryz.prog 34 [] [jD s0 t0 s1 t1 at_ gen,SB b] (jE (jA s0 t0 s1 t1 at_ gen) 1) []:=by
 have hd1:=h.1
 have hd2:=h.2
 have hmay:=may_c s0 t0 s1 t1 at_ gen h ha hg hg2
 have hown:=ownJ_c s0 t0 s1 t1 at_ gen h
 have hput:True:=trivial
 have hdo:True:=trivial
 refine Ac Tryz.func34 ?_
 refine Wk trivial (An @hmay (An @hown (An @hput @hdo))) ?_
 refine Cc ?_ ?_<;>intro hc<;>(try simp only[Za,ne_eq]at hc)
 ·refine Wk trivial (An @hmay (An @hown (An @hput @hdo))) ?_
  first|exact Fn @Tryz.results34 trivial trivial|refine Fn @Tryz.results34 trivial ?_
 ·omega
theorem add0_c (s0 t0 s1 t1:List Int) (gen:Int) (b:List Int) (h:okD s0 t0 s1 t1) (hg:1≤gen) (hg2:gen≤4611686018427387904) (hb:1≤b.length) (hb2:b.length≤4000) (hl:s0.length+t0.length+(6+b.length)≤65536):ACall Tryz.prog 34 [] [jD s0 t0 s1 t1 0 gen,SB b] (jE (jA s0 (t0++put b) s1 t1 0 gen) 0) []:=by
 have hd1:=h.1
 have hd2:=h.2
 have hmay:=may_c s0 t0 s1 t1 0 gen h (by omega) hg hg2
 have hown:True:=trivial
 have hput:=put_c b (by omega) (by omega)
 have hpl:=put_len b
 have hdo:=write0_c s0 t0 s1 t1 (put b) h (by omega)
 generalize put b=rec at *
 refine Ac Tryz.func34 ?_
 refine Wk trivial (An @hmay (An @hown (An @hput @hdo))) ?_
 refine Cc ?_ ?_<;>intro hc<;>(try simp only[Za,ne_eq]at hc)
 ·omega
 ·refine Wk trivial (An @hmay (An @hown (An @hput @hdo))) ?_
  refine Cc ?_ ?_<;>intro hc<;>(try simp only[Za,ne_eq]at hc)
  ·contradiction
  ·refine Wk trivial (An @hmay (An @hown (An @hput @hdo))) ?_
   refine Cc ?_ ?_<;>intro hc<;>(try simp only[Za,ne_eq]at hc)
   ·contradiction
   ·refine Wk trivial (An @hmay (An @hown (An @hput @hdo))) ?_
    first|exact Fn @Tryz.results34 trivial trivial|refine Fn @Tryz.results34 trivial ?_
theorem addFull0_c (s0 t0 s1 t1:List Int) (gen:Int) (b:List Int) (h:okD s0 t0 s1 t1) (hg:1≤gen) (hg2:gen≤4611686018427387904) (hb:1≤b.length) (hb2:b.length≤4000) (hl:65536<s0.length+t0.length+(6+b.length)):ACall Tryz.prog 34 [] [jD s0 t0 s1 t1 0 gen,SB b] (jE (jA s0 t0 s1 t1 0 gen) 5) []:=by
 have hd1:=h.1
 have hd2:=h.2
 have hmay:=may_c s0 t0 s1 t1 0 gen h (by omega) hg hg2
 have hown:=ownJ_c s0 t0 s1 t1 0 gen h
 have hput:=put_c b (by omega) (by omega)
 have hpl:=put_len b
 have hdo:=writex0_c s0 t0 s1 t1 (put b) h (by omega) (by omega)
 generalize put b=rec at *
 refine Ac Tryz.func34 ?_
 refine Wk trivial (An @hmay (An @hown (An @hput @hdo))) ?_
 refine Cc ?_ ?_<;>intro hc<;>(try simp only[Za,ne_eq]at hc)
 ·omega
 ·refine Wk trivial (An @hmay (An @hown (An @hput @hdo))) ?_
  refine Cc ?_ ?_<;>intro hc<;>(try simp only[Za,ne_eq]at hc)
  ·contradiction
  ·refine Wk trivial (An @hmay (An @hown (An @hput @hdo))) ?_
   refine Cc ?_ ?_<;>intro hc<;>(try simp only[Za,ne_eq]at hc)
   ·refine Wk trivial (An @hmay (An @hown (An @hput @hdo))) ?_
    first|exact Fn @Tryz.results34 trivial trivial|refine Fn @Tryz.results34 trivial ?_
   ·contradiction
end ND
structure Kee where
 cnt:Int
 pat:Int
 s0:List Int
 t0:List Int
 s1:List Int
 t1:List Int
 gen:Int
structure keeP (k:Kee):Prop where
 h0:k.s0.length+k.t0.length≤65536
 h1:k.s1.length+k.t1.length≤65536
 gen:1≤k.gen∧k.gen≤4611686018427387904
abbrev keC (k:Kee) (g:Gat):List C:=[.v (vI k.cnt),.v (vI k.pat),.v (sB k.s0),.v (sB k.t0),.v (sB k.s1),.v (sB k.t1),.v (vI 0),.v (vI k.gen),.v (.s 8 (vR g.vens)),.v (.s 6 (NA.lR g.lims)),.v (vB g.kill),.v (vI g.now),.v (vI g.pat)]
abbrev keD (k:Kee) (g:Gat):D:=.e (.a (keC k g))
abbrev keO (k:Kee) (g:Gat) (r:Nat):List C:=[.v (vI k.cnt),.v (vI k.pat),.v (sB k.s0),.v (sB k.t0),.v (sB k.s1),.v (sB k.t1),.v (vI 0),.v (vI k.gen),.o r g.vens.length,.v (.s 6 (NA.lR g.lims)),.v (vB g.kill),.v (vI g.now),.v (vI g.pat)]
abbrev kzC:List C:=[.v (vI 0),.v (vI 0),.v (.x (.slice none 0 0)),.v (.x (.slice none 0 0)),.v (.x (.slice none 0 0)),.v (.x (.slice none 0 0)),.v (vI 0),.v (vI 0),.v (.x (.slice none 0 0)),.v (.x (.slice none 0 0)),.v (vB false),.v (vI 0),.v (vI 0)]
def qKC1:=PLift.up (An @Yl (An @Zi @among2))
theorem kclone_c (k:Kee) (g:Gat) (hk:keeP k) (h:gatP g):ACall Tryz.prog 31 [] [keD k g] (keD k g) []:=by
 have hn:=h.n
 have hll:=h.lims.1
 have hj0:=hk.h0
 have hj1:=hk.h1
 have hclv:=cloneV_c g.vens (by omega)
 have hcl5:=NA.clone_c g.lims (by omega)
 refine Ac Tryz.func31 ?_
 refine Wk qKC1.1 (An @hclv (An @hcl5 @ND.clone_c)) ?_
 refine AWp.loop (fun s:Int=>mkSt [(1,.p 0 0),(2,.p 1 0),(7,I s)] [(0,.loc (keC k g)),(1,.loc kzC)] 2)
  (fun s=>s=0∨s=1∨s=2) (fun s=>(2 - s).toNat) 0 (.inl rfl) (by refine Le.of (τ:=[(1,64)]) (ν:=[]) (by kernel_rfl) ?_ ?_<;>((first|exact Lw qKC1.1 trivial|refine Lw qKC1.1 ?_);try (first|omega|rfl|exact ⟨rfl,rfl⟩))) fun s hs=>?_
 rcases hs with rfl|rfl|rfl
 ·refine Wk qKC1.1 (An @hclv (An @hcl5 @ND.clone_c)) ?_
  refine Cc ?_ ?_<;>intro hc<;>(try simp only[Za,ne_eq]at hc)
  ·refine Wk qKC1.1 (An @hclv (An @hcl5 @ND.clone_c)) ?_
   refine Zb (1:Int) (.inr (.inl rfl)) (by omega) (by refine Le.of (τ:=[]) (ν:=[]) (by kernel_rfl) ?_ ?_<;>((first|exact Lw qKC1.1 trivial|refine Lw qKC1.1 ?_);try omega))
  ·omega
 ·refine Wk qKC1.1 (An @hclv (An @hcl5 @ND.clone_c)) ?_
  refine Cc ?_ ?_<;>intro hc<;>(try simp only[Za,ne_eq]at hc)
  ·refine Wk qKC1.1 (An @hclv (An @hcl5 @ND.clone_c)) ?_
   refine Zb (2:Int) (.inr (.inr rfl)) (by omega) (by refine Le.of (τ:=[]) (ν:=[]) (by kernel_rfl) ?_ ?_<;>((first|exact Lw qKC1.1 trivial|refine Lw qKC1.1 ?_);try omega))
  ·omega
 ·refine Wk qKC1.1 (An @hclv (An @hcl5 @ND.clone_c)) ?_
  refine Cc ?_ ?_<;>intro hc<;>(try simp only[Za,ne_eq]at hc)
  ·omega
  ·refine Wk qKC1.1 (An @hclv (An @hcl5 @ND.clone_c)) ?_
   refine AWp.loop (fun i:Nat=>mkSt [(1,.p 0 0),(2,.p 1 0),(41,I g.vens.length),(42,I i)] [(0,.loc (keO k g 2)),(1,.loc kzC),(2,.row 8 (vR g.vens))] 3)
    (fun i=>i≤g.vens.length) (fun i=>g.vens.length - i) 0 (Nat.zero_le _) (by refine Le.of (τ:=[(2,258)]) (ν:=[]) (by kernel_rfl) ?_ ?_<;>((first|exact Lw qKC1.1 trivial|refine Lw qKC1.1 ?_);try (first|omega|rfl|exact ⟨rfl,rfl⟩))) fun i hi=>?_
   refine Wk qKC1.1 (An @hclv (An @hcl5 @ND.clone_c)) ?_
   refine Cc ?_ ?_<;>intro hc<;>(try simp only[Za,ne_eq]at hc)
   ·have hil:i<g.vens.length:=by omega
    have hp:=h.vens _ (Ya hil)
    have hroom:=hp.room
    have hfl:=hp.bk.fl
    have hidl:=hp.bk.il
    have hcl1:=NO.clone_c (g.vens.getD i default).bk.ords (by omega)
    have hcl2:=cloneF_c (g.vens.getD i default).bk.fills (by omega)
    have hcl3:=cloneS_c (g.vens.getD i default).bk.ids (by omega)
    have hcl4:=NO.clone_c (g.vens.getD i default).sent (by omega)
    have hb1:(vR g.vens).set i (NO.osV (g.vens.getD i default).bk.ords::List.drop 1 ((vR g.vens).getD i []))=vR g.vens:=Z5 _ _ hil _ (by rw[Zt _ _ hil];rfl)
    have hb2:(vR g.vens).set i (List.take 1 ((vR g.vens).getD i [])++[fsV (g.vens.getD i default).bk.fills]++List.drop 2 ((vR g.vens).getD i []))=vR g.vens:=Z5 _ _ hil _ (by rw[Zt _ _ hil];rfl)
    have hb3:(vR g.vens).set i (List.take 2 ((vR g.vens).getD i [])++[ssV (g.vens.getD i default).bk.ids]++List.drop 3 ((vR g.vens).getD i []))=vR g.vens:=Z5 _ _ hil _ (by rw[Zt _ _ hil];rfl)
    have hb4:(vR g.vens).set i (List.take 5 ((vR g.vens).getD i [])++[NO.osV (g.vens.getD i default).sent]++List.drop 6 ((vR g.vens).getD i []))=vR g.vens:=Z5 _ _ hil _ (by rw[Zt _ _ hil];rfl)
    refine Wk (An @hb1 (An @hb2 (An @hb3 (An @hb4 qKC1.1)))) (An @hclv (An @hcl1 (An @hcl2 (An @hcl3 (An @hcl4 (An @hcl5 @ND.clone_c)))))) ?_
    refine Zb (i+1) (show i+1≤g.vens.length by omega) (by omega) (by refine Le.of (τ:=[]) (ν:=[]) (by kernel_rfl) ?_ ?_<;>((refine Lv (An @hb1 (An @hb2 (An @hb3 (An @hb4 qKC1.1)))) fun eE=>?_;first|exact Lw (@Box.out _ eE) trivial|refine Lw (@Box.out _ eE) ?_);try omega))
   ·refine Wk qKC1.1 (An @hclv (An @hcl5 @ND.clone_c)) ?_
    first|exact Fn @Tryz.results31 qKC1.1 trivial|refine Fn @Tryz.results31 qKC1.1 ?_
theorem by_int (l:List UInt8):ND.rB (bytI l)=byR l:=by simp[bytI]
noncomputable def addK (k:Kee) (b:List UInt8):Kee×Int :=
 if 1≤b.length then (if k.s0.length+k.t0.length+(6+b.length)≤65536 then ({ k with t0:=k.t0++ND.put (bytI b) },0) else (k,5)) else (k,1)
theorem jadd_c (k:Kee) (hk:keeP k) (b:List UInt8) (hb:b.length≤4000) (r:Kee×Int) (hr:addK k b=r) :
 ACall Tryz.prog 34 [] [ND.jD k.s0 k.t0 k.s1 k.t1 0 k.gen,byD b] (ND.jE (ND.jA r.1.s0 r.1.t0 r.1.s1 r.1.t1 0 r.1.gen) r.2) []:=by
 have hl:(bytI b).length=b.length:=by simp[bytI]
 show ACall Tryz.prog 34 [] [_,.e (.c (.v (.s 1 (byR b))))] _ []
 rw[←by_int b]
 subst hr
 unfold addK
 split
 ·split
  ·exact ND.add0_c k.s0 k.t0 k.s1 k.t1 k.gen (bytI b) ⟨hk.h0,hk.h1⟩ hk.gen.1 hk.gen.2 (by omega) (by omega) (by omega)
  ·exact ND.addFull0_c k.s0 k.t0 k.s1 k.t1 k.gen (bytI b) ⟨hk.h0,hk.h1⟩ hk.gen.1 hk.gen.2 (by omega) (by omega) (by omega)
 ·exact ND.addBad_c k.s0 k.t0 k.s1 k.t1 0 k.gen (bytI b) ⟨hk.h0,hk.h1⟩ (.inl rfl) hk.gen.1 hk.gen.2 (by omega)
theorem addK_right {k:Kee} {b:List UInt8} (hk:keeP k):keeP (addK k b).1:=by
 unfold addK
 split
 ·split
  ·refine ⟨?_,hk.h1,hk.gen⟩
   have:=ND.put_len (bytI b)
   have hl:(bytI b).length=b.length:=by simp[bytI]
   show k.s0.length+(k.t0++ND.put (bytI b)).length≤65536
   rw[List.length_append];omega
  ·exact hk
 ·exact hk
theorem addK_pat {k:Kee} {b:List UInt8}:(addK k b).1.cnt=k.cnt∧(addK k b).1.pat=k.pat:=by
 unfold addK
 split
 ·split<;>exact ⟨rfl,rfl⟩
 ·exact ⟨rfl,rfl⟩
noncomputable def doK (k:Kee) (g:Gat) (a:Ask):(Kee×Gat)×Int×Int :=
 if (putK a).2≠0 then ((k,g),0,(putK a).2)
 else if (askG g a).2.2≠0 then ((k,g),0,(askG g a).2.2)
 else if (addK k (putK a).1).2≠0 then ((k,g),0,(addK k (putK a).1).2)
 else (((addK k (putK a).1).1,(askG g a).1),(askG g a).2.1,0)
theorem doK_right {k:Kee} {g:Gat} {a:Ask} (hk:keeP k) (h:gatP g):keeP (doK k g a).1.1∧gatP (doK k g a).1.2:=by
 unfold doK
 split
 ·exact ⟨hk,h⟩
 ·split
  ·exact ⟨hk,h⟩
  ·split
   ·exact ⟨hk,h⟩
   ·exact ⟨addK_right hk,ask_right h⟩
theorem putK_len (a:Ask):(putK a).1.length≤4000:=by
 unfold putK
 split
 ·split
  ·have h1:=fieldsK_len a
   show (putF (fieldsK a)).1.length≤_
   unfold putF
   split
   ·rename_i h
    have:=encL_len _ h.2
    show (encL (fieldsK a)).length≤_
    omega
   ·exact Nat.zero_le _
  ·exact Nat.zero_le _
 ·exact Nat.zero_le _
theorem do_c (k:Kee) (g:Gat) (a:Ask) (hk:keeP k) (h:gatP g) (r:(Kee×Gat)×Int×Int) (hr:doK k g a=r) :
 ACall Tryz.prog 8 [] [keD k g,aD a] (.t [.a (keC r.1.1 r.1.2),.c (.v (vI r.2.1)),.c (.v (vI r.2.2))]) []:=by
 have hclone:=kclone_c k g hk h
 have hput:=kput_c a _ rfl
 have hask:=ask_c g a h _ rfl
 have hadd:=jadd_c k hk (putK a).1 (putK_len a) _ rfl
 unfold doK at hr
 have hpat:=addK_pat (k:=k) (b:=(putK a).1)
 generalize putK a=p at hput hadd hr hpat
 generalize askG g a=q at hask hr
 generalize addK k p.1=z at hadd hr hpat
 obtain ⟨bs,e⟩:=p
 obtain ⟨g1,kd,e1⟩:=q
 obtain ⟨⟨cnt,pat,s0,t0,s1,t1,gen⟩,e2⟩:=z
 dsimp only at hput hask hadd hr hpat
 obtain ⟨rfl,rfl⟩:=hpat
 refine Ac Tryz.func8 ?_
 refine Wk trivial (An @hclone (An @hput (An @hask @hadd))) ?_
 refine Cc ?_ ?_<;>intro hc<;>(try simp only[Za,ne_eq]at hc)
 ·rw[if_pos hc]at hr
  subst hr
  refine Wk trivial (An @hclone (An @hput (An @hask @hadd))) ?_
  first|exact Fn @Tryz.results8 trivial trivial|refine Fn @Tryz.results8 trivial ?_
 ·rw[if_neg (by omega)]at hr
  refine Wk trivial (An @hclone (An @hput (An @hask @hadd))) ?_
  refine Cc ?_ ?_<;>intro hc<;>(try simp only[Za,ne_eq]at hc)
  ·rw[if_pos hc]at hr
   subst hr
   refine Wk trivial (An @hclone (An @hput (An @hask @hadd))) ?_
   first|exact Fn @Tryz.results8 trivial trivial|refine Fn @Tryz.results8 trivial ?_
  ·rw[if_neg (by omega)]at hr
   refine Wk trivial (An @hclone (An @hput (An @hask @hadd))) ?_
   refine Cc ?_ ?_<;>intro hc<;>(try simp only[Za,ne_eq]at hc)
   ·rw[if_pos hc]at hr
    subst hr
    refine Wk trivial (An @hclone (An @hput (An @hask @hadd))) ?_
    first|exact Fn @Tryz.results8 trivial trivial|refine Fn @Tryz.results8 trivial ?_
   ·rw[if_neg (by omega)]at hr
    subst hr
    refine Wk trivial (An @hclone (An @hput (An @hask @hadd))) ?_
    first|exact Fn @Tryz.results8 trivial trivial|refine Fn @Tryz.results8 trivial ?_
namespace ND
theorem all_nil:all []=([],0):=all_no (n:=0) (e:=2) (r:=[]) (by rfl) (by decide)
end ND
def newG (n:Nat) (p:Int):Gat:=⟨List.replicate n default,[],false,0,p⟩
theorem right_nil:NO.rightB ([]:List Ord)=true:=NO.Zy.2 ⟨by decide,by simp[NO.rightP]⟩
theorem newG_right {n:Nat} {p:Int} (h1:1≤n) (h4:n≤4) (hp:timeP p):gatP (newG n p):=by
 refine ⟨by simp[newG];omega,⟨by simp[newG],?_⟩,⟨Int.le_refl _,by show (0:Int)≤_;omega⟩,hp,fun v hv=>?_⟩
 ·intro i hi
  exact absurd hi (Nat.not_lt_zero _)
 ·have e:v=default:=(List.mem_replicate.1 hv).2
  subst e
  refine ⟨⟨right_nil,by decide,by decide,by decide,by decide,List.nodup_nil,fun f hf=>absurd hf List.not_mem_nil,List.nodup_nil⟩,right_nil,by decide,⟨Int.le_refl _,Int.le_refl _⟩,fun o ho=>absurd ho List.not_mem_nil⟩
def zVen:List V:=[.x (.slice none 0 0),.x (.slice none 0 0),.x (.slice none 0 0),vI 0,vI 0,.x (.slice none 0 0),vI 0,vB false]
theorem zrows_le (n:Nat) (i:Nat) (r':List V) (j:Nat) (v':V) (h1:(vR (newG n 0).vens)[i]?=some r') (h2:r'[j]?=some v'):∃r0 v,(List.replicate n zVen)[i]?=some r0∧r0[j]?=some v∧VLe v' v:=by
 rw[List.getElem?_map]at h1
 have hi:i<n:=by
  cases h:(newG n 0).vens[i]? with
  | none=>rw[h]at h1;cases h1
  | some v=>have:=(List.getElem?_eq_some_iff.1 h).1;simpa[newG] using this
 have e:(newG n 0).vens[i]?=some default:=by simp[newG,List.getElem?_replicate,hi]
 rw[e]at h1
 cases h1
 refine ⟨zVen,?_⟩
 rw[List.getElem?_replicate,if_pos hi]
 match j,h2 with
 | 0,h2=>cases h2;exact ⟨_,rfl,rfl,rfl,rfl⟩
 | 1,h2=>cases h2;exact ⟨_,rfl,rfl,rfl,rfl⟩
 | 2,h2=>cases h2;exact ⟨_,rfl,rfl,rfl,rfl⟩
 | 3,h2=>cases h2;exact ⟨_,rfl,rfl,rfl⟩
 | 4,h2=>cases h2;exact ⟨_,rfl,rfl,rfl⟩
 | 5,h2=>cases h2;exact ⟨_,rfl,rfl,rfl,rfl⟩
 | 6,h2=>cases h2;exact ⟨_,rfl,rfl,rfl⟩
 | 7,h2=>cases h2;exact ⟨_,rfl,rfl,rfl⟩
 | n+8,h2=>simp at h2
theorem gnew_c (n:Nat) (p:Int) (h1:1≤n) (h4:n≤4) (hp:timeP p):ACall Tryz.prog 23 [] [I n,I p] (.t [.a (gtC (newG n p)),.c (.v (vI 0))]) []:=by
 have ht:=isTime_c p hp
 refine Ac Tryz.func23 ?_
 refine Wk trivial @ht ?_
 refine Cc ?_ ?_<;>intro hc<;>(try simp only[Za,ne_eq]at hc)
 ·omega
 ·(repeat (first|refine AWp.seq ?_|refine AWp.block ?_|refine AWp.skip ?_));(first|refine AWp.text (own:=nO) tG_ok (by kernel_rfl) (fun K hK=>?_)|refine AWp.draw (own:=nO) tG_ok mixed (by kernel_rfl) (by kernel_rfl) (fun K hK=>?_));(repeat' (revert hK;intro hK;first|(with_reducible refine hK _ _ _ ?_;clear hK K)|(with_reducible refine hK _ _ _ ?_ ?_;(focus kernel_rfl);clear hK K)|((with_reducible change CallS _ _ _ _ _ _);(first|refine CallS.of ht ?_))|(with_reducible refine And.intro ?_ ?_)|(simp (disch:=omega) only[↓reduceIte,Zo,backT,pos,idsB,idsC,nodup,live,makeSliceE,viewE,viewFE,appendUE,appendFE,capFE,copyE,copySrc,clearE,guardB,isNilOp,nilS,withTy,splice,lenE,appendE,sliceE,boundE,indexAddrE,indexE,buildE,fillE,buildSliceE,partsE,builtinE,minE,minI,convE,convHE,appendNE,capE,D.x,id_eq,eq_self,if_true,if_false,ne_eq,implies_true,Nat.reduceAdd,Nat.reduceMul,Nat.reduceSub,Nat.reduceEqDiff,Nat.reduceLT,Nat.reduceLeDiff,reduceCtorEq,Zp,forall_const,Nat.reduceBEq,Int.reduceEq,Int.reduceToNat,bne_self_eq_false,true_and,tyAll])|(first|omega|(intro hq;(try simp only[Za,ne_eq,Bool.not_not,Bool.and_true]at hq);first|omega|assumption|(simp_all;done))|(simp_all;done))|(intro (bn:Bool) hbn)))
  change AWp _ _ _ _ _ _
  refine AWp.le (st2:=mkSt [(4,.p 0 0),(5,I 0)] [(0,.loc [.o 1 n,.v (.x (.slice none 0 0)),.v (vB false),.v (vI 0),.v (vI p)]),(1,.row 8 (List.replicate n zVen))] 2) (by refine Le.of (τ:=[(1,896)]) (ν:=[]) (by kernel_rfl) ?_ ?_<;>((first|exact Lw trivial trivial|refine Lw trivial ?_);try (first|omega|rfl|exact ⟨rfl,rfl⟩))) ?_
  refine AWp.rows (r:=1) (k:=8) (rows:=List.replicate n zVen) (by rfl) (vR (newG n 0).vens) (by simp[newG]) (fun r' h=>by obtain ⟨v,_,rfl⟩:=List.mem_map.1 h;rfl) (zrows_le n) ?_
  refine Wk trivial @ht ?_
  first|exact Fn @Tryz.results23 trivial trivial|refine Fn @Tryz.results23 trivial ?_
  exact ⟨⟨(List.take_of_length_le (by simp[newG])).symm,by simp[newG]⟩,rfl,rfl,rfl,rfl⟩
def newE (n:Nat) (p:Int):Kee:=⟨n,p,ND.put (ND.first 1 []),[],[],[],1⟩
theorem newE_right (n:Nat) (p:Int):keeP (newE n p):=by
 refine ⟨?_,by show (0:Nat)+0≤_;omega,by show (1:Int)≤1∧(1:Int)≤_;omega⟩
 have h:=ND.put_len (ND.first 1 [])
 have h2:=ND.first_len 1 []
 show (ND.put (ND.first 1 [])).length+0≤_
 rw[h,h2];decide
abbrev zDisk:D:=.e (.a [.v (.x (.slice none 0 0)),.v (.x (.slice none 0 0)),.v (.x (.slice none 0 0)),.v (.x (.slice none 0 0))])
theorem look_nil:ND.lookF ([]++[])=none:=by
 unfold ND.lookF
 rw[List.append_nil,ND.all_nil]
theorem byt_nil:ND.Byt ([]++[]):=fun j=>by simp
theorem raise_c (n:Nat) (p:Int) (h1:1≤n) (h4:n≤4) (hp:timeP p):ACall Tryz.prog 30 [] [I n,I p,zDisk] (.t [.a (keC (newE n p) (newG n p)),.c (.v (vI 0))]) []:=by
 have hg:=gnew_c n p h1 h4 hp
 have ho:=(ND.openN_c [] [] [] [] look_nil look_nil byt_nil byt_nil ⟨by decide,by decide⟩).args (bs:=[zDisk]) (by simp only[q_P,q_VLe,q_cells,List.map_nil,and_self,and_true,true_and,eq_self])
 refine Ac Tryz.func30 ?_
 refine Wk trivial (An @hg @ho) ?_
 refine Cc ?_ ?_<;>intro hc<;>(try simp only[Za,ne_eq]at hc)
 ·contradiction
 ·refine Wk trivial (An @hg @ho) ?_
  refine Cc ?_ ?_<;>intro hc<;>(try simp only[Za,ne_eq]at hc)
  ·contradiction
  ·refine Wk trivial (An @hg @ho) ?_
   refine AWp.loop (fun _:Nat=>mkSt [(0,I n),(1,I p),(6,.p 1 0),(8,.p 2 0),(10,.p 3 0),(40,.e (.c (.v (.s 1 [])))),(41,I 0),(42,I 0)]
    [(0,.loc [.v (.x (.slice none 0 0)),.v (.x (.slice none 0 0)),.v (.x (.slice none 0 0)),.v (.x (.slice none 0 0))]),(1,.loc kzC),(2,.loc (gtC (newG n p))),(3,.loc (ND.jA (ND.put (ND.first 1 [])) [] [] [] 0 1))] 4)
    (fun k=>k=0) (fun _=>0) 0 rfl (by refine Le.of (τ:=[(1,64),(2,576),(3,1344)]) (ν:=[]) (by kernel_rfl) ?_ ?_<;>((first|exact Lw trivial trivial|refine Lw trivial ?_);try (first|omega|rfl|exact ⟨rfl,rfl⟩))) fun k hk=>?_
   refine Wk trivial (An @hg @ho) ?_
   refine Cc ?_ ?_<;>intro hc<;>(try simp only[Za,ne_eq]at hc)
   ·omega
   ·refine Wk trivial (An @hg @ho) ?_
    first|exact Fn @Tryz.results30 trivial trivial|refine Fn @Tryz.results30 trivial ?_
    exact ⟨rfl,rfl,rfl,rfl,rfl,rfl,rfl⟩
theorem knew_c (n:Nat) (p:Int) (h1:1≤n) (h4:n≤4) (hp:timeP p):ACall Tryz.prog 7 [] [I n,I p] (.t [.a (keC (newE n p) (newG n p)),.c (.v (vI 0))]) []:=by
 have hg:True:=trivial
 have ho:=raise_c n p h1 h4 hp
 refine Ac Tryz.func7 ?_
 refine Wk trivial (An @hg @ho) ?_
 first|exact Fn @Tryz.results7 trivial trivial|refine Fn @Tryz.results7 trivial ?_
theorem beqT {α:Type} [BEq α] [ReflBEq α] (a:α):(a == a)=true:=beq_self_eq_true a
def qKS1:=PLift.up (An @NO.Ze (An @beqT @Bool.and_true))
theorem sameO_c (l:List Ord) (hl:l.length≤1000):ACall Tryz.prog 55 [] [NO.osD l,NO.osD l] (B true) []:=by
 refine Ac Tryz.func55 ?_
 refine Wk qKS1.1 trivial ?_
 refine Cc ?_ ?_<;>intro hc<;>(try simp only[Za,ne_eq]at hc)
 ·contradiction
 ·refine Wk qKS1.1 trivial ?_
  refine AWp.loop (fun i:Nat=>mkSt [(0,NO.osD l),(1,NO.osD l),(5,I i)] [] 0) (fun i=>i≤l.length) (fun i=>l.length - i) 0 (Nat.zero_le _) (by refine Le.of (τ:=[]) (ν:=[]) (by kernel_rfl) ?_ ?_<;>((first|exact Lw qKS1.1 trivial|refine Lw qKS1.1 ?_);try rfl)) fun i hi=>?_
  refine Wk qKS1.1 trivial ?_
  refine Cc ?_ ?_<;>intro hc<;>(try simp only[Za,ne_eq]at hc)
  ·have hil:i<l.length:=by omega
   refine Wk qKS1.1 trivial ?_
   refine Cc ?_ ?_<;>intro hc<;>(try simp only[Za,ne_eq]at hc)
   ·contradiction
   ·refine Wk qKS1.1 trivial ?_
    refine Zb (i+1) (show i+1≤l.length by omega) (by omega) (by refine Le.of (τ:=[]) (ν:=[]) (by kernel_rfl) ?_ ?_<;>((first|exact Lw qKS1.1 trivial|refine Lw qKS1.1 ?_);try omega))
  ·refine Wk qKS1.1 trivial ?_
   first|exact Fn @Tryz.results55 qKS1.1 trivial|refine Fn @Tryz.results55 qKS1.1 ?_
def qKS2:=PLift.up (An @NA.Zc (An @beqT @Bool.and_true))
theorem sameL_c (l:List NA.Lim) (hl:l.length≤1000):ACall Tryz.prog 53 [] [NA.lsD l,NA.lsD l] (B true) []:=by
 refine Ac Tryz.func53 ?_
 refine Wk qKS2.1 trivial ?_
 refine Cc ?_ ?_<;>intro hc<;>(try simp only[Za,ne_eq]at hc)
 ·contradiction
 ·refine Wk qKS2.1 trivial ?_
  refine AWp.loop (fun i:Nat=>mkSt [(0,NA.lsD l),(1,NA.lsD l),(5,I i)] [] 0) (fun i=>i≤l.length) (fun i=>l.length - i) 0 (Nat.zero_le _) (by refine Le.of (τ:=[]) (ν:=[]) (by kernel_rfl) ?_ ?_<;>((first|exact Lw qKS2.1 trivial|refine Lw qKS2.1 ?_);try rfl)) fun i hi=>?_
  refine Wk qKS2.1 trivial ?_
  refine Cc ?_ ?_<;>intro hc<;>(try simp only[Za,ne_eq]at hc)
  ·have hil:i<l.length:=by omega
   refine Wk qKS2.1 trivial ?_
   refine Cc ?_ ?_<;>intro hc<;>(try simp only[Za,ne_eq]at hc)
   ·contradiction
   ·refine Wk qKS2.1 trivial ?_
    refine Zb (i+1) (show i+1≤l.length by omega) (by omega) (by refine Le.of (τ:=[]) (ν:=[]) (by kernel_rfl) ?_ ?_<;>((first|exact Lw qKS2.1 trivial|refine Lw qKS2.1 ?_);try omega))
  ·refine Wk qKS2.1 trivial ?_
   first|exact Fn @Tryz.results53 qKS2.1 trivial|refine Fn @Tryz.results53 qKS2.1 ?_
def qKS3:=PLift.up (An @Z0 (An @Zg (An @beqT @Bool.and_true)))
theorem sameB_c (b:Bk) (h1:b.ords.length≤1000) (h2:b.fills.length≤1000) (h3:b.ids.length≤1000):ACall Tryz.prog 54 [] [.e (.a (bkC b)),.e (.a (bkC b))] (B true) []:=by
 have ho:=sameO_c b.ords h1
 refine Ac Tryz.func54 ?_
 refine Wk qKS3.1 @ho ?_
 refine Cc ?_ ?_<;>intro hc<;>(try simp only[Za,ne_eq]at hc)
 ·contradiction
 ·refine Wk qKS3.1 @ho ?_
  refine AWp.loop (fun i:Nat=>mkSt [(2,.p 0 0),(3,.p 1 0),(5,I i)] [(0,.loc (bkC b)),(1,.loc (bkC b))] 2) (fun i=>i≤b.fills.length) (fun i=>b.fills.length - i) 0 (Nat.zero_le _) (by refine Le.of (τ:=[(1,64)]) (ν:=[]) (by kernel_rfl) ?_ ?_<;>((first|exact Lw qKS3.1 trivial|refine Lw qKS3.1 ?_);try (first|omega|rfl|exact ⟨rfl,rfl⟩))) fun i hi=>?_
  refine Wk qKS3.1 @ho ?_
  refine Cc ?_ ?_<;>intro hc<;>(try simp only[Za,ne_eq]at hc)
  ·have hil:i<b.fills.length:=by omega
   refine Wk qKS3.1 @ho ?_
   refine Cc ?_ ?_<;>intro hc<;>(try simp only[Za,ne_eq]at hc)
   ·contradiction
   ·refine Wk qKS3.1 @ho ?_
    refine Zb (i+1) (show i+1≤b.fills.length by omega) (by omega) (by refine Le.of (τ:=[]) (ν:=[]) (by kernel_rfl) ?_ ?_<;>((first|exact Lw qKS3.1 trivial|refine Lw qKS3.1 ?_);try omega))
  ·refine Wk qKS3.1 @ho ?_
   refine AWp.loop (fun i:Nat=>mkSt [(2,.p 0 0),(3,.p 1 0),(6,I i)] [(0,.loc (bkC b)),(1,.loc (bkC b))] 2) (fun i=>i≤b.ids.length) (fun i=>b.ids.length - i) 0 (Nat.zero_le _) (by refine Le.of (τ:=[]) (ν:=[]) (by kernel_rfl) ?_ ?_<;>((first|exact Lw qKS3.1 trivial|refine Lw qKS3.1 ?_);try (first|omega|rfl|exact ⟨rfl,rfl⟩))) fun i hi=>?_
   refine Wk qKS3.1 @ho ?_
   refine Cc ?_ ?_<;>intro hc<;>(try simp only[Za,ne_eq]at hc)
   ·have hil:i<b.ids.length:=by omega
    refine Wk qKS3.1 @ho ?_
    refine Cc ?_ ?_<;>intro hc<;>(try simp only[Za,ne_eq]at hc)
    ·contradiction
    ·refine Wk qKS3.1 @ho ?_
     refine Zb (i+1) (show i+1≤b.ids.length by omega) (by omega) (by refine Le.of (τ:=[]) (ν:=[]) (by kernel_rfl) ?_ ?_<;>((first|exact Lw qKS3.1 trivial|refine Lw qKS3.1 ?_);try omega))
   ·refine Wk qKS3.1 @ho ?_
    first|exact Fn @Tryz.results54 qKS3.1 trivial|refine Fn @Tryz.results54 qKS3.1 ?_
def qKS4:=PLift.up (An @getD_vR (An @beqT @Bool.and_true))
theorem sameG_c (g:Gat) (h:gatP g):ACall Tryz.prog 19 [] [gtD g,gtD g] (B true) []:=by
 have hll:=h.lims.1
 have hn:=h.n
 have hl:=sameL_c g.lims (by omega)
 refine Ac Tryz.func19 ?_
 refine Wk qKS4.1 @hl ?_
 refine Cc ?_ ?_<;>intro hc<;>(try simp only[Za,ne_eq]at hc)
 ·contradiction
 ·refine Wk qKS4.1 @hl ?_
  refine AWp.loop (fun i:Nat=>mkSt [(2,.p 0 0),(3,.p 1 0),(5,I i)] [(0,.loc (gtC g)),(1,.loc (gtC g))] 2) (fun i=>i≤g.vens.length) (fun i=>g.vens.length - i) 0 (Nat.zero_le _) (by refine Le.of (τ:=[(1,64)]) (ν:=[]) (by kernel_rfl) ?_ ?_<;>((first|exact Lw qKS4.1 trivial|refine Lw qKS4.1 ?_);try (first|omega|rfl|exact ⟨rfl,rfl⟩))) fun i hi=>?_
  refine Wk qKS4.1 @hl ?_
  refine Cc ?_ ?_<;>intro hc<;>(try simp only[Za,ne_eq]at hc)
  ·have hil:i<g.vens.length:=by omega
   have hp:=h.vens _ (Ya hil)
   have hroom:=hp.room
   have hfl:=hp.bk.fl
   have hidl:=hp.bk.il
   have hb:=sameB_c (g.vens.getD i default).bk (by omega) (by omega) (by omega)
   have ho:=sameO_c (g.vens.getD i default).sent (by omega)
   refine Wk qKS4.1 (An @hl (An @hb @ho)) ?_
   refine Cc ?_ ?_<;>intro hc<;>(try simp only[Za,ne_eq]at hc)
   ·contradiction
   ·refine Wk qKS4.1 (An @hl (An @hb @ho)) ?_
    refine Zb (i+1) (show i+1≤g.vens.length by omega) (by omega) (by refine Le.of (τ:=[]) (ν:=[]) (by kernel_rfl) ?_ ?_<;>((first|exact Lw qKS4.1 trivial|refine Lw qKS4.1 ?_);try omega))
  ·refine Wk qKS4.1 @hl ?_
   first|exact Fn @Tryz.results19 qKS4.1 trivial|refine Fn @Tryz.results19 qKS4.1 ?_
def shO (o:Ord):Bool:=decide (o.id.size≤100) && (decide (o.acc.size≤100) && decide (o.sym.size≤100))
theorem short_c (l:List Ord) (hl:l.length≤80) (r:Bool) (hr:l.all shO=r):ACall Tryz.prog 15 [] [NO.osD l] (B r) []:=by
 refine Ac Tryz.func15 ?_
 refine Wk @NO.Ze trivial ?_
 refine Cc ?_ ?_<;>intro hc<;>(try simp only[Za,ne_eq]at hc)
 ·omega
 ·refine Wk @NO.Ze trivial ?_
  refine AWp.loop (fun i:Nat=>mkSt [(0,NO.osD l),(3,I i)] [] 0) (fun i=>i≤l.length∧∀j,j<i→shO (l.getD j default)=true) (fun i=>l.length - i) 0 ⟨Nat.zero_le _,fun j h=>by omega⟩ (by refine Le.of (τ:=[]) (ν:=[]) (by kernel_rfl) ?_ ?_<;>((refine Lv @NO.Ze fun eE=>?_;first|exact Lw (@Box.out _ eE) trivial|refine Lw (@Box.out _ eE) ?_);try rfl)) fun i hi=>?_
  obtain ⟨hi,hall⟩:=hi
  refine Wk @NO.Ze trivial ?_
  refine Cc ?_ ?_<;>intro hc<;>(try simp only[Za,ne_eq]at hc)
  ·have hil:i<l.length:=by omega
   refine Wk @NO.Ze trivial ?_
   refine Cc ?_ ?_<;>intro hc<;>(try simp only[Za,ne_eq]at hc)
   ·have e:r=false:=by
     rw[←hr,List.all_eq_false]
     refine ⟨l.getD i default,?_,fun h=>?_⟩
     ·rw[List.getD_eq_getElem?_getD,List.getElem?_eq_getElem hil];exact List.getElem_mem hil
     ·simp only[shO,Bool.and_eq_true,decide_eq_true_eq]at h;omega
    subst e
    refine Wk @NO.Ze trivial ?_
    first|exact Fn @Tryz.results15 @NO.Ze trivial|refine Fn @Tryz.results15 @NO.Ze ?_
   ·refine Wk @NO.Ze trivial ?_
    refine Zb (i+1) ⟨show i+1≤l.length by omega,fun j h=>?_⟩ (by omega) (by refine Le.of (τ:=[]) (ν:=[]) (by kernel_rfl) ?_ ?_<;>((refine Lv @NO.Ze fun eE=>?_;first|exact Lw (@Box.out _ eE) trivial|refine Lw (@Box.out _ eE) ?_);try omega))
    rcases Nat.lt_or_eq_of_le (Nat.le_of_lt_succ h) with h|rfl
    ·exact hall j h
    ·simp only[shO,Bool.and_eq_true,decide_eq_true_eq];omega
  ·have e:r=true:=by
    rw[←hr,List.all_eq_true]
    intro x hx
    obtain ⟨j,h,rfl⟩:=List.getElem_of_mem hx
    have:=hall j (by omega)
    rwa [List.getD_eq_getElem?_getD,List.getElem?_eq_getElem h]at this
   subst e
   refine Wk @NO.Ze trivial ?_
   first|exact Fn @Tryz.results15 @NO.Ze trivial|refine Fn @Tryz.results15 @NO.Ze ?_
theorem whyL_new (l:List NA.Lim) (o:Ord) (w:Int×Int):whyL l (newO o) w=whyL l o w:=rfl
theorem shut_late {g:Gat} {o:Ord} (hp:g.pat=20) (hl:(vat g 0).last≤g.now - 21):(orderG g 0 o).1=g∧((orderG g 0 o).2.2≠0∨(orderG g 0 o).2.1≠0):=by
 unfold orderG
 split
 ·exact ⟨rfl,.inl (by simp)⟩
 ·split
  ·exact ⟨rfl,.inl (by simp)⟩
  ·split
   ·rename_i hw;exact ⟨rfl,.inr hw⟩
   ·rename_i hw
    exfalso
    obtain ⟨_,hs,_⟩:=why_st (stI_rng _ _ _).1 (Classical.not_not.1 hw)
    have:=(stI_zero hs).2.2.2.1
    omega
def frId:ByteArray:=⟨#[102,114,101,115,104,48]⟩
def frX (v:Ven):Exe:=⟨frId,⟨#[]⟩,(v.sent.getD 0 default).id,(v.sent.getD 0 default).acc,(v.sent.getD 0 default).sym,1,(v.sent.getD 0 default).buy,(v.sent.getD 0 default).qty,(v.sent.getD 0 default).price,v.bk.clock⟩
structure opnP (g:Gat):Prop where
 sent:0<(vat g 0).sent.length
 bad:(vat g 0).bk.bad=0
 gap:(vat g 0).gap=false
 kill:g.kill=false
 room:(vat g 0).bk.ords.length+(vat g 0).sent.length<64
 ids:(vat g 0).bk.ids.length<255
 done:((vat g 0).sent.getD 0 default).done=0
theorem shut_take {g:Gat} (h:gatP g) (hp:opnP g):(takeS (vat g 0).bk (frX (vat g 0))).2=2 ∨
 ((takeS (vat g 0).bk (frX (vat g 0))).2=1∧(takeS (vat g 0).bk (frX (vat g 0))).1.bad=0∧(takeS (vat g 0).bk (frX (vat g 0))).1.ids.length=(vat g 0).bk.ids.length+1∧(takeS (vat g 0).bk (frX (vat g 0))).1.ords.length=(vat g 0).bk.ords.length+1):=by
 have h0:isAt g 0:=⟨by decide,by have:=h.n.1;omega⟩
 have hv:=h.vens _ (vat_mem h0)
 generalize hV:vat g 0=v at hv ⊢
 obtain ⟨h1,h2,_,_,h5,h6,h7⟩:=hp
 rw[hV]at h1 h2 h5 h6 h7
 have hm:=getD_memO h1
 have hmay:=mem_may hv.sent _ hm
 have hop:=(hv.op _ hm).2
 unfold takeS
 rw[if_neg (by omega)]
 split
 ·exact .inl rfl
 ·right
  have hnew:NO.newS v.bk.ords (nwX (frX v))=(v.bk.ords++[NO.nwO (nwX (frX v))],0):=by
   unfold NO.newS
   rw[if_neg,if_neg,if_neg (by omega)]
   ·have:NO.placeI v.bk.ords (v.sent.getD 0 default).id<0:=hasO_false.1 hop
    have e:(nwX (frX v)).id=(v.sent.getD 0 default).id:=rfl
    rw[e];omega
   ·simp only[not_or,Bool.not_eq_false]
    refine ⟨hv.bk.ords,?_⟩
    simp only[NO.mayB,Bool.and_eq_true,decide_eq_true_eq]at hmay
    simp only[NO.mayB,NO.nwO,nwX,frX,Bool.and_eq_true,decide_eq_true_eq]
    obtain ⟨⟨⟨⟨⟨⟨a,b⟩,c⟩,d⟩,e⟩,f⟩,i⟩:=hmay
    exact ⟨⟨⟨⟨⟨⟨a,b⟩,c⟩,d⟩,e⟩,decide_eq_true (Int.le_refl _)⟩,decide_eq_true (by rw[h7]at i;exact i)⟩
  have happ:applyS { v.bk with ids:=v.bk.ids++[(frX v).id] } (frX v)=({ v.bk with ids:=v.bk.ids++[(frX v).id],ords:=v.bk.ords++[NO.nwO (nwX (frX v))] },0):=by
   unfold applyS
   rw[if_neg (by show ¬v.bk.clock<v.bk.clock;omega),if_pos (by rfl)]
   show (if (NO.newS v.bk.ords (nwX (frX v))).2=0 then _ else _)=_
   rw[hnew,if_pos rfl]
  rw[happ,if_pos rfl]
  exact ⟨rfl,h2,by simp,by simp⟩
theorem shut_told {g:Gat} (h:gatP g) (hp:opnP g) (hx:exB (frX (vat g 0))=true) :
 ((toldG g 0 (frX (vat g 0))).2.1=2∧(toldG g 0 (frX (vat g 0))).2.2=0)∨((toldG g 0 (frX (vat g 0))).2.1=1∧(toldG g 0 (frX (vat g 0))).2.2=0 ∧
   ∀o,(orderG (toldG g 0 (frX (vat g 0))).1 0 o).2.2≠0∨(orderG (toldG g 0 (frX (vat g 0))).1 0 o).2.1=whyL (toldG g 0 (frX (vat g 0))).1.lims o (worstG (toldG g 0 (frX (vat g 0))).1 o.acc o.sym)):=by
 have h0:isAt g 0:=⟨by decide,by have:=h.n.1;omega⟩
 have hv:=h.vens _ (vat_mem h0)
 have hs:sentI (vat g 0).sent (frX (vat g 0))=0:=by
  have key:∀v:Ven,0<v.sent.length→(v.sent.getD 0 default).done=0→sentI v.sent (frX v)=((0:Nat):Int):=fun v h1 h2=>fstI_some h1 (fun i hi=>by omega) (by
   generalize hs:v.sent.getD 0 default=s at h2
   simp only[sentP,frX,hs,h2,beq_self_eq_true,Bool.true_and,Bool.true_or])
  exact key _ hp.sent hp.done
 have ht:=shut_take h hp
 unfold toldG
 rw[if_neg (fun hh=>hh.elim (fun n=>n h0) (fun n=>by rw[hx]at n;cases n))]
 rcases ht with ht|⟨ht,hb,hi,ho⟩
 ·rw[if_pos (.inl ht)]
  exact .inl ⟨ht,rfl⟩
 ·right
  rw[if_neg (by rw[ht];decide),if_neg (by rw[hs];omega),if_pos ht,if_pos (.inl rfl)]
  refine ⟨rfl,rfl,fun o=>?_⟩
  dsimp only
  generalize hV:({ vat g 0 with bk:=(takeS (vat g 0).bk (frX (vat g 0))).1,last:=g.now,sent:=(vat g 0).sent.eraseIdx (sentI (vat g 0).sent (frX (vat g 0))).toNat }:Ven)=v
  have hlen:0<g.vens.length:=by have:=h.n.1;omega
  have hat:(setV g 0 v).vens.getD 0 default=v:=by
   show (g.vens.set 0 v).getD 0 default=v
   rw[List.getD_eq_getElem?_getD,List.getElem?_set_self hlen];rfl
  have hnow:=h.now
  have hpat:=h.pat
  have hst:stI v g.now g.pat=0:=by
   subst hV
   unfold stI
   dsimp only
   have h1:((vat g 0).sent.eraseIdx (sentI (vat g 0).sent (frX (vat g 0))).toNat).length=(vat g 0).sent.length - 1:=List.length_eraseIdx_of_lt (by rw[hs];exact hp.sent)
   have h2:=hp.sent
   have h3:=hp.room
   have h4:=hp.ids
   have h5:=hp.gap
   have h6:=hpat.1
   rw[if_neg (by omega),if_neg (by omega),if_neg (by omega),if_neg (by rw[h5];decide)]
  have hwhy:whyG (setV g 0 v) (0:Int).toNat (newO o)=whyL (setV g 0 v).lims o (worstG (setV g 0 v) o.acc o.sym):=by
   unfold whyG
   have hk:(setV g 0 v).kill=false:=hp.kill
   have e:stI ((setV g 0 v).vens.getD (0:Int).toNat default) (setV g 0 v).now (setV g 0 v).pat=0:=by
    have:((0:Int).toNat)=0:=rfl
    rw[this,hat];exact hst
   rw[if_neg (by rw[hk];decide),if_neg (by rw[e];decide),whyL_new]
   rfl
  unfold orderG
  split
  ·exact .inl (by simp)
  ·split
   ·exact .inl (by simp)
   ·split
    ·exact .inr hwhy
    ·rename_i hw
     right
     have hw:=Classical.not_not.1 hw
     rw[hwhy]at hw
     exact hw.symm
theorem limit_pat (g:Gat) (x:NA.Lim):(limitG g x).1.pat=g.pat:=by unfold limitG;split<;>rfl
theorem ask_pat (g:Gat) (a:Ask):(askG g a).1.pat=g.pat:=by
 unfold askG
 split
 ·unfold orderG
  repeat' split
  all_goals rfl
 ·split
  ·unfold changeG
   repeat' split
   all_goals rfl
  ·split
   ·unfold toldG
    repeat' split
    all_goals rfl
   ·split
    ·unfold tickG
     split<;>rfl
    ·split
     ·rfl
     ·split
      ·unfold gapG
       split<;>rfl
      ·split
       ·unfold resetG
        repeat' split
        all_goals rfl
       ·split
        ·exact limit_pat _ _
        ·rfl
theorem do_pat (k:Kee) (g:Gat) (a:Ask):(doK k g a).1.2.pat=g.pat:=by
 unfold doK
 split
 ·rfl
 ·split
  ·rfl
  ·split
   ·rfl
   ·exact ask_pat g a
end Eng
end Go.Proofs.YtgenjpingdkmgaaGreatDoor
