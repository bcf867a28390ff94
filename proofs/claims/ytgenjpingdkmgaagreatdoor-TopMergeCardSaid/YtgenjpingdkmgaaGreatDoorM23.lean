/- Contracts of functions that this seat's law calls. No condition. -/
import Derived.Test.YtgenjpingdkmgaaGreatDoorRows
import Derived.Test.YtgenjpingdkmgaaGreatDoorM22
set_option maxRecDepth 100000
set_option linter.unusedSimpArgs false
set_option linter.unusedVariables false
namespace Go.Proofs.YtgenjpingdkmgaaGreatDoor
namespace Eng
namespace ND
def qDT41:=PLift.up (An @Zi @among2)
theorem has1_c (s0 t0 s1 t1:List Int):ACall Tryz.prog 155 [] [diskD s0 t0 s1 t1,I 1] (B true) []:=by
 refine Ac Tryz.func155 ?_
 refine Wk qDT41.1 trivial ?_
 first|exact Fn @Tryz.results155 qDT41.1 trivial|refine Fn @Tryz.results155 qDT41.1 ?_
 rfl
theorem concat2_c (a b:List Int) (h:a.length+b.length≤1000000):ACall Tryz.prog 156 [] [.e (.c (.v (.s 1 [[sB a],[sB b]])))] (SB (a++b)) []:=by
 have:=concat_c [a,b] (by simpa using h) (by simp)
 rw[show [a,b].flatten=a++b by simp]at this
 exact this
def qDT42:=PLift.up (An @right_c (An @has0_c (An @has1_c @concat2_c)))
theorem read0_c (s0 t0 s1 t1:List Int) (h:okD s0 t0 s1 t1):ACall Tryz.prog 137 [] [diskD s0 t0 s1 t1,I 0] (SB (s0++t0)) []:=by
 have hd1:=h.1
 have hd2:=h.2
 refine Ac Tryz.func137 ?_
 refine Wk qDT41.1 qDT42.1 ?_
 refine Cc ?_ ?_<;>intro hc<;>(try simp only[Za,ne_eq]at hc)
 ·simp at hc
 ·refine Wk qDT41.1 qDT42.1 ?_
  first|exact Fn @Tryz.results137 qDT41.1 trivial|refine Fn @Tryz.results137 qDT41.1 ?_
theorem read1_c (s0 t0 s1 t1:List Int) (h:okD s0 t0 s1 t1):ACall Tryz.prog 137 [] [diskD s0 t0 s1 t1,I 1] (SB (s1++t1)) []:=by
 have hd1:=h.1
 have hd2:=h.2
 refine Ac Tryz.func137 ?_
 refine Wk qDT41.1 qDT42.1 ?_
 refine Cc ?_ ?_<;>intro hc<;>(try simp only[Za,ne_eq]at hc)
 ·simp at hc
 ·refine Wk qDT41.1 qDT42.1 ?_
  first|exact Fn @Tryz.results137 qDT41.1 trivial|refine Fn @Tryz.results137 qDT41.1 ?_
end ND
namespace ND
abbrev resD (s0 t0 s1 t1:List Int) (e:Int):D:=.t [.a (arrD s0 t0 s1 t1),.c (.v (vI e))]
def qDT52:=PLift.up (An @own_c (An @right_c (An @has0_c (An @has1_c (An @concat2_c (An @read0_c (An @read1_c @clone_c)))))))
def qDT51:=PLift.up (An @Zi (An @among2 @take_m))
theorem sync0_c (s0 t0 s1 t1:List Int) (h:okD s0 t0 s1 t1):ACall Tryz.prog 193 [] [diskD s0 t0 s1 t1,I 0] (resD (s0++t0) [] s1 t1 0) []:=by
 have hd1:=h.1
 have hd2:=h.2
 obtain ⟨h1,h2⟩:=id h
 refine Ac Tryz.func193 ?_
 refine Wk qDT51.1 qDT52.1 ?_
 refine Cc ?_ ?_<;>intro hc<;>(try simp only[Za,ne_eq]at hc)
 ·simp at hc
 ·refine Wk qDT51.1 qDT52.1 ?_
  first|exact Fn @Tryz.results193 qDT51.1 trivial|refine Fn @Tryz.results193 qDT51.1 ?_
theorem write0_c (s0 t0 s1 t1 b:List Int) (h:okD s0 t0 s1 t1) (hb:s0.length+t0.length+b.length≤65536):ACall Tryz.prog 99 [] [diskD s0 t0 s1 t1,I 0,SB b] (resD s0 (t0++b) s1 t1 0) []:=by
 have hd1:=h.1
 have hd2:=h.2
 obtain ⟨h1,h2⟩:=id h
 refine Ac Tryz.func99 ?_
 refine Wk qDT51.1 qDT52.1 ?_
 refine Cc ?_ ?_<;>intro hc<;>(try simp only[Za,ne_eq]at hc)
 ·simp at hc
 ·refine Wk qDT51.1 qDT52.1 ?_
  refine Cc ?_ ?_<;>intro hc<;>(try simp only[Za,ne_eq]at hc)
  ·omega
  ·refine Wk qDT51.1 qDT52.1 ?_
   first|exact Fn @Tryz.results99 qDT51.1 trivial|refine Fn @Tryz.results99 qDT51.1 ?_
theorem cut0_c (s0 t0 s1 t1:List Int) (n:Nat) (h:okD s0 t0 s1 t1) (hn:n≤s0.length+t0.length):ACall Tryz.prog 139 [] [diskD s0 t0 s1 t1,I 0,I n] (resD ((s0++t0).take n) [] s1 t1 0) []:=by
 have hd1:=h.1
 have hd2:=h.2
 obtain ⟨h1,h2⟩:=id h
 refine Ac Tryz.func139 ?_
 refine Wk qDT51.1 qDT52.1 ?_
 refine Cc ?_ ?_<;>intro hc<;>(try simp only[Za,ne_eq]at hc)
 ·simp at hc
 ·refine Wk qDT51.1 qDT52.1 ?_
  refine Cc ?_ ?_<;>intro hc<;>(try simp only[Za,ne_eq]at hc)
  ·simp at hc;omega
  ·refine Wk qDT51.1 qDT52.1 ?_
   first|exact Fn @Tryz.results139 qDT51.1 trivial|refine Fn @Tryz.results139 qDT51.1 ?_
end ND
namespace ND
def gb (gen:Int) (i:Nat):Int:=gen / 2 ^ (56 - 8*i) % 256
def gbs (gen:Int) (i:Nat):List Int:=71::(List.range i).map (gb gen)
theorem gbs_len (gen:Int) (i:Nat):(gbs gen i).length=i+1:=by simp[gbs]
theorem gbs_succ (gen:Int) (i:Nat):gbs gen (i+1)=gbs gen i++[gb gen i]:=by
 rw[gbs,gbs,List.range_succ,List.map_append];rfl
def first (gen:Int) (snap:List Int):List Int:=gbs gen 8++snap
theorem first_len (gen:Int) (snap:List Int):(first gen snap).length=9+snap.length:=by rw[first,List.length_append,gbs_len]
theorem firstF (gen:Int) (snap:List Int):gbs gen 8++snap=first gen snap:=rfl
theorem take_first (gen:Int) (snap:List Int):List.take (9+snap.length) ((first gen snap).map fun n=>[V.x (.int .u8 n)])=(first gen snap).map fun n=>[V.x (.int .u8 n)]:=List.take_of_length_le (by rw[List.length_map,first_len];exact Nat.le_refl _)
theorem take_gbs (gen:Int) (i:Nat):(rB (gbs gen i)).take (i+1)=rB (gbs gen i):=List.take_of_length_le (by rw[List.length_map,gbs_len];exact Nat.le_refl _)
theorem take_gbs8 (gen:Int):(rB (gbs gen 8)).take 9=rB (gbs gen 8):=take_gbs gen 8
theorem app_u8 (xs ys:List Int):(xs.map fun n=>[V.x (.int .u8 n)])++(ys.map fun n=>[V.x (.int .u8 n)])=(xs++ys).map fun n=>[V.x (.int .u8 n)]:=List.map_append.symm
theorem u8_mod (x:Int):IntKind.u8.wrap x=x % 256:=by
 simp only[IntKind.wrap,IntKind.bits,IntKind.signed]
 simp
theorem gb_eq (gen:Int) (i:Nat) (h:i≤7):IntKind.u8.wrap (gen.fdiv (2 ^ min (56 - 8*(i:Int)).toNat IntKind.i64.bits))=gb gen i:=by
 have e:min (56 - 8*(i:Int)).toNat IntKind.i64.bits=56 - 8*i:=by
  rw[show (56 - 8*(i:Int)).toNat=56 - 8*i by omega]
  exact Nat.min_eq_left (by show 56 - 8*i≤64;omega)
 rw[e,u8_mod,Int.fdiv_eq_ediv_of_nonneg _ (Int.le_of_lt (Int.pow_pos (by omega)))]
 rfl
def qDJ21:=PLift.up (An @app_u8 (An @gbs_len (An @take_gbs (An @take_gbs8 (An @List.length_map.{0,0} (An @first_len (An @firstF (An @take_first (An @List.length_append.{0} @List.length_singleton.{0})))))))))
theorem begin0_c (s0 t0 s1 t1:List Int) (gen:Int) (snap:List Int) (h:okD s0 t0 s1 t1) (hs:snap.length≤4000):ACall Tryz.prog 138 [] [diskD s0 t0 s1 t1,I 0,I gen,SB snap] (resD (put (first gen snap)) [] s1 t1 0) []:=by
 have hd1:=h.1
 have hd2:=h.2
 have hfl:=first_len gen snap
 have hput:=put_c (first gen snap) (by omega) (by omega)
 have hpl:=put_len (first gen snap)
 generalize put (first gen snap)=rec at hput hpl ⊢
 have hcut:=cut0_c s0 t0 s1 t1 0 h (Nat.zero_le _)
 rw[List.take_zero]at hcut
 have hok:okD [] [] s1 t1:=⟨by simp,h.2⟩
 have hwrite:=write0_c [] [] s1 t1 rec hok (by simp only[List.length_nil];omega)
 rw[List.nil_append]at hwrite
 have hok2:okD [] rec s1 t1:=⟨by simp only[List.length_nil];omega,h.2⟩
 have hsync:=sync0_c [] rec s1 t1 hok2
 rw[List.nil_append]at hsync
 have hsh:True:=trivial
 refine Ac Tryz.func138 ?_
 refine Wk (An @hsh qDJ21.1) (An @hput (An @hcut (An @hwrite @hsync))) ?_
 refine AWp.loop (τ:=ren [(1,64),(2,192)]) (fun i:Nat=>mkSt [(1,I 0),(2,I gen),(3,SB snap),(4,.p 0 0),(8,.p 1 0),(10,.e (.c (.o 2 (i+1)))),(11,I (56 - 8*(i:Int)))] [(0,.loc (arrD s0 t0 s1 t1)),(1,.loc [nilC,nilC,nilC,nilC]),(2,.row 1 (rB (gbs gen i)))] 3)
  (fun i=>i≤8) (fun i=>8 - i) 0 (Nat.zero_le _) (by refine Le.of (ν:=[]) (by kernel_rfl) ?_ ?_<;>((refine Lv (An @hsh qDJ21.1) fun eE=>?_;first|exact Lw (@Box.out _ eE) trivial|refine Lw (@Box.out _ eE) ?_);try rfl)) fun i hi=>?_
 refine Wk (An @hsh qDJ21.1) (An @hput (An @hcut (An @hwrite @hsync))) ?_
 refine Cc ?_ ?_<;>intro hc<;>(try simp only[Za,ne_eq]at hc)
 ·have hsh:=gb_eq gen i (by omega)
  have hgs:=gbs_succ gen i
  refine Wk (An @hsh qDJ21.1) (An @hput (An @hcut (An @hwrite @hsync))) ?_
  refine Zb (τ:=ren [(2,515)]) (ν:=[]) (i+1) (by omega) (by omega) ?_
  refine Le.of (by kernel_rfl) ?_ ?_<;>((refine Lv (An @hsh qDJ21.1) fun eE=>?_;first|exact Lw (@Box.out _ eE) trivial|refine Lw (@Box.out _ eE) ?_);try omega)
  rw[hgs];simp only[List.map_append];rfl
 ·obtain rfl:i=8:=by omega
  refine Wk (An @hsh qDJ21.1) (An @hput (An @hcut (An @hwrite @hsync))) ?_
  refine Cc ?_ ?_<;>intro hc<;>(try simp only[Za,ne_eq]at hc)
  ·contradiction
  ·refine Wk (An @hsh qDJ21.1) (An @hput (An @hcut (An @hwrite @hsync))) ?_
   refine Cc ?_ ?_<;>intro hc<;>(try simp only[Za,ne_eq]at hc)
   ·contradiction
   ·refine Wk (An @hsh qDJ21.1) (An @hput (An @hcut (An @hwrite @hsync))) ?_
    refine Cc ?_ ?_<;>intro hc<;>(try simp only[Za,ne_eq]at hc)
    ·contradiction
    ·refine Wk (An @hsh qDJ21.1) (An @hput (An @hcut (An @hwrite @hsync))) ?_
     first|exact Fn @Tryz.results138 (An @hsh qDJ21.1) trivial|refine Fn @Tryz.results138 (An @hsh qDJ21.1) ?_
end ND
namespace ND
abbrev jA (s0 t0 s1 t1:List Int) (at_ gen:Int):List C:=[.v (sB s0),.v (sB t0),.v (sB s1),.v (sB t1),.v (vI at_),.v (vI gen)]
abbrev jD (s0 t0 s1 t1:List Int) (at_ gen:Int):D:=.e (.a (jA s0 t0 s1 t1 at_ gen))
def qDJ31:=PLift.up (An @has0_c (An @has1_c @clone_c))
theorem may_c (s0 t0 s1 t1:List Int) (at_ gen:Int) (h:okD s0 t0 s1 t1) (ha:at_=0∨at_=1) (hg:1≤gen) (hg2:gen≤4611686018427387904):ACall Tryz.prog 96 [] [jD s0 t0 s1 t1 at_ gen] (B true) []:=by
 have hd1:=h.1
 have hd2:=h.2
 have hright:=right_c s0 t0 s1 t1 h
 have hown:True:=trivial
 refine Ac Tryz.func96 ?_
 refine Wk @among2 (An @hright (An @hown qDJ31.1)) ?_
 first|exact Fn @Tryz.results96 @among2 trivial|refine Fn @Tryz.results96 @among2 ?_
 (rw[Bool.eq_iff_iff];simp only[Za,ne_eq,true_iff,iff_true,Bool.true_and,Bool.and_true,Bool.false_and,Bool.and_false];try omega)
theorem ownJ_c (s0 t0 s1 t1:List Int) (at_ gen:Int) (h:okD s0 t0 s1 t1):ACall Tryz.prog 97 [] [jD s0 t0 s1 t1 at_ gen] (jD s0 t0 s1 t1 at_ gen) []:=by
 have hd1:=h.1
 have hd2:=h.2
 have hright:True:=trivial
 have hown:True:=trivial
 obtain ⟨h0,h1⟩:=h
 refine Ac Tryz.func97 ?_
 refine Wk @among2 (An @hright (An @hown qDJ31.1)) ?_
 refine AWp.loop (τ:=ren [(1,64)]) (fun k:Int=>mkSt [(1,.p 0 0),(2,.p 1 0),(7,.e (.a (arrD s0 t0 s1 t1))),(8,I k)] [(0,.loc (jA s0 t0 s1 t1 at_ gen)),(1,.loc [nilC,nilC,nilC,nilC,.v (vI 0),.v (vI 0)])] 2)
  (fun k=>k=0∨k=1∨k=2) (fun k=>(2 - k).toNat) 0 (.inl rfl) (by refine Le.of (ν:=[]) (by kernel_rfl) ?_ ?_<;>(refine Lv @among2 fun eE=>?_;first|exact Lw (@Box.out _ eE) trivial|refine Lw (@Box.out _ eE) ?_)) fun k hk=>?_
 rcases hk with rfl|rfl|rfl
 ·refine Wk @among2 (An @hright (An @hown qDJ31.1)) ?_
  refine Cc ?_ ?_<;>intro hc<;>(try simp only[Za,ne_eq]at hc)
  ·refine Wk @among2 (An @hright (An @hown qDJ31.1)) ?_
   refine Zb 1 (.inr (.inl rfl)) (by omega) (by refine Le.of (τ:=[]) (ν:=[]) (by kernel_rfl) ?_ ?_<;>((refine Lv @among2 fun eE=>?_;first|exact Lw (@Box.out _ eE) trivial|refine Lw (@Box.out _ eE) ?_);try omega))
  ·omega
 ·refine Wk @among2 (An @hright (An @hown qDJ31.1)) ?_
  refine Cc ?_ ?_<;>intro hc<;>(try simp only[Za,ne_eq]at hc)
  ·refine Wk @among2 (An @hright (An @hown qDJ31.1)) ?_
   refine Zb 2 (.inr (.inr rfl)) (by omega) (by refine Le.of (τ:=[]) (ν:=[]) (by kernel_rfl) ?_ ?_<;>((refine Lv @among2 fun eE=>?_;first|exact Lw (@Box.out _ eE) trivial|refine Lw (@Box.out _ eE) ?_);try omega))
  ·omega
 ·refine Wk @among2 (An @hright (An @hown qDJ31.1)) ?_
  refine Cc ?_ ?_<;>intro hc<;>(try simp only[Za,ne_eq]at hc)
  ·omega
  ·refine Wk @among2 (An @hright (An @hown qDJ31.1)) ?_
   first|exact Fn @Tryz.results97 @among2 trivial|refine Fn @Tryz.results97 @among2 ?_
theorem rightNo_c (s0 t0 s1 t1:List Int) (h:¬okD s0 t0 s1 t1) (h0:s0.length≤70000) (h1:t0.length≤70000) (h2:s1.length≤70000) (h3:t1.length≤70000):ACall Tryz.prog 135 [] [diskD s0 t0 s1 t1] (B false) []:=by
 have hright:True:=trivial
 have hown:True:=trivial
 refine Ac Tryz.func135 ?_
 refine Wk @among2 (An @hright (An @hown qDJ31.1)) ?_
 refine AWp.loop (fun k:Int=>mkSt [(1,.p 0 0),(6,.e (.a (arrD s0 t0 s1 t1))),(7,I k)] [(0,.loc (arrD s0 t0 s1 t1))] 1)
  (fun k=>k=0∨(k=1∧s0.length+t0.length≤65536)) (fun k=>(2 - k).toNat) 0 (.inl rfl) (by refine Le.of (τ:=[]) (ν:=[]) (by kernel_rfl) ?_ ?_<;>((refine Lv @among2 fun eE=>?_;first|exact Lw (@Box.out _ eE) trivial|refine Lw (@Box.out _ eE) ?_);try omega)) fun k hk=>?_
 rcases hk with rfl|⟨rfl,hk⟩
 ·refine Wk @among2 (An @hright (An @hown qDJ31.1)) ?_
  refine Cc ?_ ?_<;>intro hc<;>(try simp only[Za,ne_eq]at hc)
  ·refine Wk @among2 (An @hright (An @hown qDJ31.1)) ?_
   refine Cc ?_ ?_<;>intro hc<;>(try simp only[Za,ne_eq]at hc)
   ·refine Wk @among2 (An @hright (An @hown qDJ31.1)) ?_
    first|exact Fn @Tryz.results135 @among2 trivial|refine Fn @Tryz.results135 @among2 ?_
   ·refine Wk @among2 (An @hright (An @hown qDJ31.1)) ?_
    refine Zb 1 (.inr ⟨rfl,by omega⟩) (by omega) (by refine Le.of (τ:=[]) (ν:=[]) (by kernel_rfl) ?_ ?_<;>((refine Lv @among2 fun eE=>?_;first|exact Lw (@Box.out _ eE) trivial|refine Lw (@Box.out _ eE) ?_);try omega))
  ·omega
 ·refine Wk @among2 (An @hright (An @hown qDJ31.1)) ?_
  refine Cc ?_ ?_<;>intro hc<;>(try simp only[Za,ne_eq]at hc)
  ·refine Wk @among2 (An @hright (An @hown qDJ31.1)) ?_
   refine Cc ?_ ?_<;>intro hc<;>(try simp only[Za,ne_eq]at hc)
   ·refine Wk @among2 (An @hright (An @hown qDJ31.1)) ?_
    first|exact Fn @Tryz.results135 @among2 trivial|refine Fn @Tryz.results135 @among2 ?_
   ·exact absurd ⟨hk,by omega⟩ h
  ·omega
theorem writex0_c (s0 t0 s1 t1 b:List Int) (h:okD s0 t0 s1 t1) (hb:65536<s0.length+t0.length+b.length) (hb2:b.length≤1000000):ACall Tryz.prog 99 [] [diskD s0 t0 s1 t1,I 0,SB b] (resD s0 t0 s1 t1 5) []:=by
 have hd1:=h.1
 have hd2:=h.2
 have hright:=right_c s0 t0 s1 t1 h
 have hown:=own_c s0 t0 s1 t1 (by have:=h.1;omega) (by have:=h.1;omega) (by have:=h.2;omega) (by have:=h.2;omega)
 obtain ⟨h0,h1⟩:=h
 refine Ac Tryz.func99 ?_
 refine Wk @among2 (An @hright (An @hown qDJ31.1)) ?_
 refine Cc ?_ ?_<;>intro hc<;>(try simp only[Za,ne_eq]at hc)
 ·contradiction
 ·refine Wk @among2 (An @hright (An @hown qDJ31.1)) ?_
  refine Cc ?_ ?_<;>intro hc<;>(try simp only[Za,ne_eq]at hc)
  ·refine Wk @among2 (An @hright (An @hown qDJ31.1)) ?_
   first|exact Fn @Tryz.results99 @among2 trivial|refine Fn @Tryz.results99 @among2 ?_
  ·omega
end ND
namespace ND
instance (f:List Int):Decidable (goodF f):=by unfold goodF;exact inferInstance
def lookF (b:List Int):Option (Int×List Int×List (List Int)×Nat) :=
 match (all b).1 with
 | []=>none
 | f::rest=>if goodF f then some (genL (g8 f),f.drop 9,rest,(all b).2) else none
theorem all_mem (b:List Int) (hb:Byt b):∀r,r∈(all b).1→Byt r∧1≤r.length∧r.length≤4096:=by
 generalize hn:b.length=n
 induction n using Nat.strongRecOn generalizing b with
 | ind n ih =>
  obtain ⟨⟨r,m,e⟩,hnx⟩:∃q,next b=q:=⟨_,rfl⟩
  by_cases he:e=0
  ·subst he
   have hp:=(next_pos _ _ _ _ hnx).1 rfl
   rw[all_ok hnx]
   intro x hx
   rcases List.mem_cons.1 hx with rfl|hx
   ·unfold next at hnx
    repeat' split at hnx
    all_goals first
     | (exfalso;cases hnx;done)
     | (cases hnx
        refine ⟨byt_drop (byt_take hb _) _,?_,?_⟩<;>(rw[nextR,List.length_drop,List.length_take];omega))
   ·exact ih (b.drop m.toNat).length (by rw[List.length_drop];omega) _ (byt_drop hb _) rfl x hx
  ·rw[all_no hnx he]
   intro x hx
   cases hx
theorem lookNone_c (b:List Int) (hb:Byt b) (hlen:b.length≤1000000) (h:lookF b=none):ACall Tryz.prog 136 [] [SB b] (.t [.a cZ,.c (.v (.x (.bool false)))]) []:=by
 unfold lookF at h
 have hm:=all_mem b hb
 match ha:(all b).1 with
 | []=>exact lookNone0_c b hb hlen ha
 | f::rest =>
  rw[ha]at h hm
  have hf:=(hm f (List.mem_cons_self ..)).1
  simp only[]at h
  split at h
  ·cases h
  ·rename_i hg
   by_cases h9:9≤f.length∧f.getD 0 0=71
   ·exact lookBad_c b f rest hb hf hlen ha h9.1 h9.2 (by
     have:¬(1≤genL (g8 f)∧genL (g8 f)≤4611686018427387904):=fun x=>hg ⟨h9.1,h9.2,x.1,x.2⟩
     omega)
   ·exact lookNone1_c b f rest hb hlen ha h9
abbrev resO (A:List C) (sn:List Int) (en:List (List Int)):D:=.t [.a A,.c (.v (sB sn)),.c (.v (.s 1 (rSS en))),.c (.v (vI 0))]
abbrev jZ:List C:=[nilC,nilC,nilC,nilC,.v (vI 0),.v (vI 0)]
def qDJ41:=PLift.up (An @List.getD_nil.{0} (An @Bool.true_and @Bool.and_true))
theorem openN_c (s0 t0 s1 t1:List Int) (hl0:lookF (s0++t0)=none) (hl1:lookF (s1++t1)=none) (hb0:Byt (s0++t0)) (hb1:Byt (s1++t1)) (h:okD s0 t0 s1 t1):ACall Tryz.prog 81 [] [diskD s0 t0 s1 t1] (resO (jA (put (first 1 [])) [] s1 t1 0 1) [] []) []:=by
 have hd1:=h.1
 have hd2:=h.2
 have hright:=right_c s0 t0 s1 t1 h
 have hread0:=read0_c s0 t0 s1 t1 h
 have hread1:=read1_c s0 t0 s1 t1 h
 have hlen0:(s0++t0).length≤65536:=by rw[List.length_append];exact h.1
 have hlen1:(s1++t1).length≤65536:=by rw[List.length_append];exact h.2
 have hlook0:=lookNone_c _ hb0 (by omega) hl0
 have hlook1:=lookNone_c _ hb1 (by omega) hl1
 have hcut:=(begin0_c s0 t0 s1 t1 1 [] h (by simp)).args (bs:=[diskD s0 t0 s1 t1,I 0,I 1,.e (.c (.v (.x (.slice none 0 0))))]) (by simp only[q_P,q_VLe,q_cells,List.map_nil,and_self,and_true,true_and,eq_self])
 generalize s0++t0=b0 at *
 generalize s1++t1=b1 at *
 refine Ac Tryz.func81 ?_
 refine Wk qDJ41.1 (An @hright (An @hread0 (An @hread1 (An @hlook0 (An @hlook1 @hcut))))) ?_
 refine Cc ?_ ?_<;>intro hc<;>(try simp only[Za,ne_eq]at hc)
 ·contradiction
 ·refine Wk qDJ41.1 (An @hright (An @hread0 (An @hread1 (An @hlook0 (An @hlook1 @hcut))))) ?_
  refine AWp.loop (τ:=ren [(1,64),(2,576)]) (fun k:Int=>mkSt [(1,.p 0 0),(2,.p 1 0),(6,I (if k=0 then -1 else if k=1 then -1 else -1)),(7,.p 2 0),(16,I k)] [(0,.loc (arrD s0 t0 s1 t1)),(1,.loc jZ),(2,.loc (if k=0 then cZ else if k=1 then cZ else cZ))] 3)
   (fun k=>k=0∨k=1∨k=2) (fun k=>(2 - k).toNat) 0 (.inl rfl) (by refine Le.of (ν:=[]) (by kernel_rfl) ?_ ?_<;>((first|exact Lw qDJ41.1 trivial|refine Lw qDJ41.1 ?_);try rfl)) fun k hk=>?_
  rcases hk with rfl|rfl|rfl
  ·simp only[if_true]
   refine Wk qDJ41.1 (An @hright (An @hread0 (An @hread1 (An @hlook0 (An @hlook1 @hcut))))) ?_
   refine Cc ?_ ?_<;>intro hc<;>(try simp only[Za,ne_eq]at hc)
   ·refine Wk qDJ41.1 (An @hright (An @hread0 (An @hread1 (An @hlook0 (An @hlook1 @hcut))))) ?_
    refine Cc ?_ ?_<;>intro hc<;>(try simp only[Za,ne_eq]at hc)
    ·first|omega|(simp at hc;done)|(simp at hc;omega)|contradiction
    ·skip
     refine Wk qDJ41.1 (An @hright (An @hread0 (An @hread1 (An @hlook0 (An @hlook1 @hcut))))) ?_
     refine Zb (τ:=ren []) (ν:=[]) 1 (.inr (.inl rfl)) (by omega) (by refine Le.of (by kernel_rfl) ?_ ?_<;>((first|exact Lw qDJ41.1 trivial|refine Lw qDJ41.1 ?_);try rfl))
   ·first|omega|contradiction|exact absurd trivial hc
  ·simp only[Int.reduceEq,if_true,if_false]
   refine Wk qDJ41.1 (An @hright (An @hread0 (An @hread1 (An @hlook0 (An @hlook1 @hcut))))) ?_
   refine Cc ?_ ?_<;>intro hc<;>(try simp only[Za,ne_eq]at hc)
   ·refine Wk qDJ41.1 (An @hright (An @hread0 (An @hread1 (An @hlook0 (An @hlook1 @hcut))))) ?_
    refine Cc ?_ ?_<;>intro hc<;>(try simp only[Za,ne_eq]at hc)
    ·first|omega|(simp at hc;done)|(simp at hc;omega)|contradiction
    ·skip
     refine Wk qDJ41.1 (An @hright (An @hread0 (An @hread1 (An @hlook0 (An @hlook1 @hcut))))) ?_
     refine Zb (τ:=ren []) (ν:=[]) 2 (.inr (.inr rfl)) (by omega) (by refine Le.of (by kernel_rfl) ?_ ?_<;>((first|exact Lw qDJ41.1 trivial|refine Lw qDJ41.1 ?_);try rfl))
   ·first|omega|contradiction|exact absurd trivial hc
  ·simp only[Int.reduceEq,if_false]
   refine Wk qDJ41.1 (An @hright (An @hread0 (An @hread1 (An @hlook0 (An @hlook1 @hcut))))) ?_
   refine Cc ?_ ?_<;>intro hc<;>(try simp only[Za,ne_eq]at hc)
   ·first|omega|contradiction
   ·refine Wk qDJ41.1 (An @hright (An @hread0 (An @hread1 (An @hlook0 (An @hlook1 @hcut))))) ?_
    refine Cc ?_ ?_<;>intro hc<;>(try simp only[Za,ne_eq]at hc)
    ·skip
     refine Wk qDJ41.1 (An @hright (An @hread0 (An @hread1 (An @hlook0 (An @hlook1 @hcut))))) ?_
     refine Cc ?_ ?_<;>intro hc<;>(try simp only[Za,ne_eq]at hc)
     ·first|omega|(simp at hc;done)|(simp at hc;omega)|contradiction
     ·skip
      refine Wk qDJ41.1 (An @hright (An @hread0 (An @hread1 (An @hlook0 (An @hlook1 @hcut))))) ?_
      first|exact Fn @Tryz.results81 qDJ41.1 trivial|refine Fn @Tryz.results81 qDJ41.1 ?_
    ·first|omega|(simp at hc;done)|(simp at hc;omega)|contradiction
end ND
namespace ND
abbrev jE (A:List C) (e:Int):D:=.t [.a A,.c (.v (vI e))]
theorem addBad_c (s0 t0 s1 t1:List Int) (at_ gen:Int) (b:List Int) (h:okD s0 t0 s1 t1) (ha:at_=0∨at_=1) (hg:1≤gen) (hg2:gen≤4611686018427387904) (hb:b.length<1):ACall Tryz.prog 34 [] [jD s0 t0 s1 t1 at_ gen,SB b] (jE (jA s0 t0 s1 t1 at_ gen) 1) []:=by
 have hd1:=h.1
 have hd2:=h.2
 have hmay:=may_c s0 t0 s1 t1 at_ gen h ha hg hg2
 have hown:=ownJ_c s0 t0 s1 t1 at_ gen h
 have hput:True:=trivial
 have hdo:True:=trivial
 refine Ac Tryz.func34 ?_
 refine Wk trivial (An @hmay (An @hown (An @hput @hdo))) ?_
 refine Cc ?_ ?_<;>intro hc<;>(try simp only[Za,ne_eq]at hc)
 ·refine Wk trivial (An @hmay (An @hown (An @hput @hdo))) ?_
  first|exact Fn @Tryz.results34 trivial trivial|refine Fn @Tryz.results34 trivial ?_
 ·omega
theorem add0_c (s0 t0 s1 t1:List Int) (gen:Int) (b:List Int) (h:okD s0 t0 s1 t1) (hg:1≤gen) (hg2:gen≤4611686018427387904) (hb:1≤b.length) (hb2:b.length≤4000) (hl:s0.length+t0.length+(6+b.length)≤65536):ACall Tryz.prog 34 [] [jD s0 t0 s1 t1 0 gen,SB b] (jE (jA s0 (t0++put b) s1 t1 0 gen) 0) []:=by
 have hd1:=h.1
 have hd2:=h.2
 have hmay:=may_c s0 t0 s1 t1 0 gen h (by omega) hg hg2
 have hown:True:=trivial
 have hput:=put_c b (by omega) (by omega)
 have hpl:=put_len b
 have hdo:=write0_c s0 t0 s1 t1 (put b) h (by omega)
 generalize put b=rec at *
 refine Ac Tryz.func34 ?_
 refine Wk trivial (An @hmay (An @hown (An @hput @hdo))) ?_
 refine Cc ?_ ?_<;>intro hc<;>(try simp only[Za,ne_eq]at hc)
 ·omega
 ·refine Wk trivial (An @hmay (An @hown (An @hput @hdo))) ?_
  refine Cc ?_ ?_<;>intro hc<;>(try simp only[Za,ne_eq]at hc)
  ·contradiction
  ·refine Wk trivial (An @hmay (An @hown (An @hput @hdo))) ?_
   refine Cc ?_ ?_<;>intro hc<;>(try simp only[Za,ne_eq]at hc)
   ·contradiction
   ·refine Wk trivial (An @hmay (An @hown (An @hput @hdo))) ?_
    first|exact Fn @Tryz.results34 trivial trivial|refine Fn @Tryz.results34 trivial ?_
theorem addFull0_c (s0 t0 s1 t1:List Int) (gen:Int) (b:List Int) (h:okD s0 t0 s1 t1) (hg:1≤gen) (hg2:gen≤4611686018427387904) (hb:1≤b.length) (hb2:b.length≤4000) (hl:65536<s0.length+t0.length+(6+b.length)):ACall Tryz.prog 34 [] [jD s0 t0 s1 t1 0 gen,SB b] (jE (jA s0 t0 s1 t1 0 gen) 5) []:=by
 have hd1:=h.1
 have hd2:=h.2
 have hmay:=may_c s0 t0 s1 t1 0 gen h (by omega) hg hg2
 have hown:=ownJ_c s0 t0 s1 t1 0 gen h
 have hput:=put_c b (by omega) (by omega)
 have hpl:=put_len b
 have hdo:=writex0_c s0 t0 s1 t1 (put b) h (by omega) (by omega)
 generalize put b=rec at *
 refine Ac Tryz.func34 ?_
 refine Wk trivial (An @hmay (An @hown (An @hput @hdo))) ?_
 refine Cc ?_ ?_<;>intro hc<;>(try simp only[Za,ne_eq]at hc)
 ·omega
 ·refine Wk trivial (An @hmay (An @hown (An @hput @hdo))) ?_
  refine Cc ?_ ?_<;>intro hc<;>(try simp only[Za,ne_eq]at hc)
  ·contradiction
  ·refine Wk trivial (An @hmay (An @hown (An @hput @hdo))) ?_
   refine Cc ?_ ?_<;>intro hc<;>(try simp only[Za,ne_eq]at hc)
   ·refine Wk trivial (An @hmay (An @hown (An @hput @hdo))) ?_
    first|exact Fn @Tryz.results34 trivial trivial|refine Fn @Tryz.results34 trivial ?_
   ·contradiction
end ND
structure Kee where
 cnt:Int
 pat:Int
 s0:List Int
 t0:List Int
 s1:List Int
 t1:List Int
 gen:Int
structure keeP (k:Kee):Prop where
 h0:k.s0.length+k.t0.length≤65536
 h1:k.s1.length+k.t1.length≤65536
 gen:1≤k.gen∧k.gen≤4611686018427387904
abbrev keC (k:Kee) (g:Gat):List C:=[.v (vI k.cnt),.v (vI k.pat),.v (sB k.s0),.v (sB k.t0),.v (sB k.s1),.v (sB k.t1),.v (vI 0),.v (vI k.gen),.v (.s 8 (vR g.vens)),.v (.s 6 (NA.lR g.lims)),.v (vB g.kill),.v (vI g.now),.v (vI g.pat)]
abbrev keD (k:Kee) (g:Gat):D:=.e (.a (keC k g))
abbrev keO (k:Kee) (g:Gat) (r:Nat):List C:=[.v (vI k.cnt),.v (vI k.pat),.v (sB k.s0),.v (sB k.t0),.v (sB k.s1),.v (sB k.t1),.v (vI 0),.v (vI k.gen),.o r g.vens.length,.v (.s 6 (NA.lR g.lims)),.v (vB g.kill),.v (vI g.now),.v (vI g.pat)]
abbrev kzC:List C:=[.v (vI 0),.v (vI 0),.v (.x (.slice none 0 0)),.v (.x (.slice none 0 0)),.v (.x (.slice none 0 0)),.v (.x (.slice none 0 0)),.v (vI 0),.v (vI 0),.v (.x (.slice none 0 0)),.v (.x (.slice none 0 0)),.v (vB false),.v (vI 0),.v (vI 0)]
def qKC1:=PLift.up (An @Ym (An @Zi @among2))
theorem kclone_c (k:Kee) (g:Gat) (hk:keeP k) (h:gatP g):ACall Tryz.prog 31 [] [keD k g] (keD k g) []:=by
 have hn:=h.n
 have hll:=h.lims.1
 have hj0:=hk.h0
 have hj1:=hk.h1
 have hclv:=cloneV_c g.vens (by omega)
 have hcl5:=NA.clone_c g.lims (by omega)
 refine Ac Tryz.func31 ?_
 refine Wk qKC1.1 (An @hclv (An @hcl5 @ND.clone_c)) ?_
 refine AWp.loop (fun s:Int=>mkSt [(1,.p 0 0),(2,.p 1 0),(7,I s)] [(0,.loc (keC k g)),(1,.loc kzC)] 2)
  (fun s=>s=0∨s=1∨s=2) (fun s=>(2 - s).toNat) 0 (.inl rfl) (by refine Le.of (τ:=[(1,64)]) (ν:=[]) (by kernel_rfl) ?_ ?_<;>((first|exact Lw qKC1.1 trivial|refine Lw qKC1.1 ?_);try (first|omega|rfl|exact ⟨rfl,rfl⟩))) fun s hs=>?_
 rcases hs with rfl|rfl|rfl
 ·refine Wk qKC1.1 (An @hclv (An @hcl5 @ND.clone_c)) ?_
  refine Cc ?_ ?_<;>intro hc<;>(try simp only[Za,ne_eq]at hc)
  ·refine Wk qKC1.1 (An @hclv (An @hcl5 @ND.clone_c)) ?_
   refine Zb (1:Int) (.inr (.inl rfl)) (by omega) (by refine Le.of (τ:=[]) (ν:=[]) (by kernel_rfl) ?_ ?_<;>((first|exact Lw qKC1.1 trivial|refine Lw qKC1.1 ?_);try omega))
  ·omega
 ·refine Wk qKC1.1 (An @hclv (An @hcl5 @ND.clone_c)) ?_
  refine Cc ?_ ?_<;>intro hc<;>(try simp only[Za,ne_eq]at hc)
  ·refine Wk qKC1.1 (An @hclv (An @hcl5 @ND.clone_c)) ?_
   refine Zb (2:Int) (.inr (.inr rfl)) (by omega) (by refine Le.of (τ:=[]) (ν:=[]) (by kernel_rfl) ?_ ?_<;>((first|exact Lw qKC1.1 trivial|refine Lw qKC1.1 ?_);try omega))
  ·omega
 ·refine Wk qKC1.1 (An @hclv (An @hcl5 @ND.clone_c)) ?_
  refine Cc ?_ ?_<;>intro hc<;>(try simp only[Za,ne_eq]at hc)
  ·omega
  ·refine Wk qKC1.1 (An @hclv (An @hcl5 @ND.clone_c)) ?_
   refine AWp.loop (fun i:Nat=>mkSt [(1,.p 0 0),(2,.p 1 0),(41,I g.vens.length),(42,I i)] [(0,.loc (keO k g 2)),(1,.loc kzC),(2,.row 8 (vR g.vens))] 3)
    (fun i=>i≤g.vens.length) (fun i=>g.vens.length - i) 0 (Nat.zero_le _) (by refine Le.of (τ:=[(2,258)]) (ν:=[]) (by kernel_rfl) ?_ ?_<;>((first|exact Lw qKC1.1 trivial|refine Lw qKC1.1 ?_);try (first|omega|rfl|exact ⟨rfl,rfl⟩))) fun i hi=>?_
   refine Wk qKC1.1 (An @hclv (An @hcl5 @ND.clone_c)) ?_
   refine Cc ?_ ?_<;>intro hc<;>(try simp only[Za,ne_eq]at hc)
   ·have hil:i<g.vens.length:=by omega
    have hp:=h.vens _ (Yd hil)
    have hroom:=hp.room
    have hfl:=hp.bk.fl
    have hidl:=hp.bk.il
    have hcl1:=NO.clone_c (g.vens.getD i default).bk.ords (by omega)
    have hcl2:=cloneF_c (g.vens.getD i default).bk.fills (by omega)
    have hcl3:=cloneS_c (g.vens.getD i default).bk.ids (by omega)
    have hcl4:=NO.clone_c (g.vens.getD i default).sent (by omega)
    have hb1:(vR g.vens).set i (NO.osV (g.vens.getD i default).bk.ords::List.drop 1 ((vR g.vens).getD i []))=vR g.vens:=Z5 _ _ hil _ (by rw[Zt _ _ hil];rfl)
    have hb2:(vR g.vens).set i (List.take 1 ((vR g.vens).getD i [])++[fsV (g.vens.getD i default).bk.fills]++List.drop 2 ((vR g.vens).getD i []))=vR g.vens:=Z5 _ _ hil _ (by rw[Zt _ _ hil];rfl)
    have hb3:(vR g.vens).set i (List.take 2 ((vR g.vens).getD i [])++[ssV (g.vens.getD i default).bk.ids]++List.drop 3 ((vR g.vens).getD i []))=vR g.vens:=Z5 _ _ hil _ (by rw[Zt _ _ hil];rfl)
    have hb4:(vR g.vens).set i (List.take 5 ((vR g.vens).getD i [])++[NO.osV (g.vens.getD i default).sent]++List.drop 6 ((vR g.vens).getD i []))=vR g.vens:=Z5 _ _ hil _ (by rw[Zt _ _ hil];rfl)
    refine Wk (An @hb1 (An @hb2 (An @hb3 (An @hb4 qKC1.1)))) (An @hclv (An @hcl1 (An @hcl2 (An @hcl3 (An @hcl4 (An @hcl5 @ND.clone_c)))))) ?_
    refine Zb (i+1) (show i+1≤g.vens.length by omega) (by omega) (by refine Le.of (τ:=[]) (ν:=[]) (by kernel_rfl) ?_ ?_<;>((refine Lv (An @hb1 (An @hb2 (An @hb3 (An @hb4 qKC1.1)))) fun eE=>?_;first|exact Lw (@Box.out _ eE) trivial|refine Lw (@Box.out _ eE) ?_);try omega))
   ·refine Wk qKC1.1 (An @hclv (An @hcl5 @ND.clone_c)) ?_
    first|exact Fn @Tryz.results31 qKC1.1 trivial|refine Fn @Tryz.results31 qKC1.1 ?_
theorem by_int (l:List UInt8):ND.rB (bytI l)=byR l:=by simp[bytI]
noncomputable def addK (k:Kee) (b:List UInt8):Kee×Int :=
 if 1≤b.length then (if k.s0.length+k.t0.length+(6+b.length)≤65536 then ({ k with t0:=k.t0++ND.put (bytI b) },0) else (k,5)) else (k,1)
theorem jadd_c (k:Kee) (hk:keeP k) (b:List UInt8) (hb:b.length≤4000) (r:Kee×Int) (hr:addK k b=r) :
 ACall Tryz.prog 34 [] [ND.jD k.s0 k.t0 k.s1 k.t1 0 k.gen,byD b] (ND.jE (ND.jA r.1.s0 r.1.t0 r.1.s1 r.1.t1 0 r.1.gen) r.2) []:=by
 have hl:(bytI b).length=b.length:=by simp[bytI]
 show ACall Tryz.prog 34 [] [_,.e (.c (.v (.s 1 (byR b))))] _ []
 rw[←by_int b]
 subst hr
 unfold addK
 split
 ·split
  ·exact ND.add0_c k.s0 k.t0 k.s1 k.t1 k.gen (bytI b) ⟨hk.h0,hk.h1⟩ hk.gen.1 hk.gen.2 (by omega) (by omega) (by omega)
  ·exact ND.addFull0_c k.s0 k.t0 k.s1 k.t1 k.gen (bytI b) ⟨hk.h0,hk.h1⟩ hk.gen.1 hk.gen.2 (by omega) (by omega) (by omega)
 ·exact ND.addBad_c k.s0 k.t0 k.s1 k.t1 0 k.gen (bytI b) ⟨hk.h0,hk.h1⟩ (.inl rfl) hk.gen.1 hk.gen.2 (by omega)
theorem addK_right {k:Kee} {b:List UInt8} (hk:keeP k):keeP (addK k b).1:=by
 unfold addK
 split
 ·split
  ·refine ⟨?_,hk.h1,hk.gen⟩
   have:=ND.put_len (bytI b)
   have hl:(bytI b).length=b.length:=by simp[bytI]
   show k.s0.length+(k.t0++ND.put (bytI b)).length≤65536
   rw[List.length_append];omega
  ·exact hk
 ·exact hk
theorem addK_pat {k:Kee} {b:List UInt8}:(addK k b).1.cnt=k.cnt∧(addK k b).1.pat=k.pat:=by
 unfold addK
 split
 ·split<;>exact ⟨rfl,rfl⟩
 ·exact ⟨rfl,rfl⟩
noncomputable def doK (k:Kee) (g:Gat) (a:Ask):(Kee×Gat)×Int×Int :=
 if (putK a).2≠0 then ((k,g),0,(putK a).2)
 else if (askG g a).2.2≠0 then ((k,g),0,(askG g a).2.2)
 else if (addK k (putK a).1).2≠0 then ((k,g),0,(addK k (putK a).1).2)
 else (((addK k (putK a).1).1,(askG g a).1),(askG g a).2.1,0)
theorem doK_right {k:Kee} {g:Gat} {a:Ask} (hk:keeP k) (h:gatP g):keeP (doK k g a).1.1∧gatP (doK k g a).1.2:=by
 unfold doK
 split
 ·exact ⟨hk,h⟩
 ·split
  ·exact ⟨hk,h⟩
  ·split
   ·exact ⟨hk,h⟩
   ·exact ⟨addK_right hk,ask_right h⟩
theorem putK_len (a:Ask):(putK a).1.length≤4000:=by
 unfold putK
 split
 ·split
  ·have h1:=fieldsK_len a
   show (putF (fieldsK a)).1.length≤_
   unfold putF
   split
   ·rename_i h
    have:=encL_len _ h.2
    show (encL (fieldsK a)).length≤_
    omega
   ·exact Nat.zero_le _
  ·exact Nat.zero_le _
 ·exact Nat.zero_le _
theorem do_c (k:Kee) (g:Gat) (a:Ask) (hk:keeP k) (h:gatP g) (r:(Kee×Gat)×Int×Int) (hr:doK k g a=r) :
 ACall Tryz.prog 8 [] [keD k g,aD a] (.t [.a (keC r.1.1 r.1.2),.c (.v (vI r.2.1)),.c (.v (vI r.2.2))]) []:=by
 have hclone:=kclone_c k g hk h
 have hput:=kput_c a _ rfl
 have hask:=ask_c g a h _ rfl
 have hadd:=jadd_c k hk (putK a).1 (putK_len a) _ rfl
 unfold doK at hr
 have hpat:=addK_pat (k:=k) (b:=(putK a).1)
 generalize putK a=p at hput hadd hr hpat
 generalize askG g a=q at hask hr
 generalize addK k p.1=z at hadd hr hpat
 obtain ⟨bs,e⟩:=p
 obtain ⟨g1,kd,e1⟩:=q
 obtain ⟨⟨cnt,pat,s0,t0,s1,t1,gen⟩,e2⟩:=z
 dsimp only at hput hask hadd hr hpat
 obtain ⟨rfl,rfl⟩:=hpat
 refine Ac Tryz.func8 ?_
 refine Wk trivial (An @hclone (An @hput (An @hask @hadd))) ?_
 refine Cc ?_ ?_<;>intro hc<;>(try simp only[Za,ne_eq]at hc)
 ·rw[if_pos hc]at hr
  subst hr
  refine Wk trivial (An @hclone (An @hput (An @hask @hadd))) ?_
  first|exact Fn @Tryz.results8 trivial trivial|refine Fn @Tryz.results8 trivial ?_
 ·rw[if_neg (by omega)]at hr
  refine Wk trivial (An @hclone (An @hput (An @hask @hadd))) ?_
  refine Cc ?_ ?_<;>intro hc<;>(try simp only[Za,ne_eq]at hc)
  ·rw[if_pos hc]at hr
   subst hr
   refine Wk trivial (An @hclone (An @hput (An @hask @hadd))) ?_
   first|exact Fn @Tryz.results8 trivial trivial|refine Fn @Tryz.results8 trivial ?_
  ·rw[if_neg (by omega)]at hr
   refine Wk trivial (An @hclone (An @hput (An @hask @hadd))) ?_
   refine Cc ?_ ?_<;>intro hc<;>(try simp only[Za,ne_eq]at hc)
   ·rw[if_pos hc]at hr
    subst hr
    refine Wk trivial (An @hclone (An @hput (An @hask @hadd))) ?_
    first|exact Fn @Tryz.results8 trivial trivial|refine Fn @Tryz.results8 trivial ?_
   ·rw[if_neg (by omega)]at hr
    subst hr
    refine Wk trivial (An @hclone (An @hput (An @hask @hadd))) ?_
    first|exact Fn @Tryz.results8 trivial trivial|refine Fn @Tryz.results8 trivial ?_
namespace ND
theorem all_nil:all []=([],0):=all_no (n:=0) (e:=2) (r:=[]) (by rfl) (by decide)
end ND
def newG (n:Nat) (p:Int):Gat:=⟨List.replicate n default,[],false,0,p⟩
theorem right_nil:NO.rightB ([]:List Ord)=true:=NO.Zy.2 ⟨by decide,by simp[NO.rightP]⟩
theorem newG_right {n:Nat} {p:Int} (h1:1≤n) (h4:n≤4) (hp:timeP p):gatP (newG n p):=by
 refine ⟨by simp[newG];omega,⟨by simp[newG],?_⟩,⟨Int.le_refl _,by show (0:Int)≤_;omega⟩,hp,fun v hv=>?_⟩
 ·intro i hi
  exact absurd hi (Nat.not_lt_zero _)
 ·have e:v=default:=(List.mem_replicate.1 hv).2
  subst e
  refine ⟨⟨right_nil,by decide,by decide,by decide,by decide,List.nodup_nil,fun f hf=>absurd hf List.not_mem_nil,List.nodup_nil⟩,right_nil,by decide,⟨Int.le_refl _,Int.le_refl _⟩,fun o ho=>absurd ho List.not_mem_nil⟩
def zVen:List V:=[.x (.slice none 0 0),.x (.slice none 0 0),.x (.slice none 0 0),vI 0,vI 0,.x (.slice none 0 0),vI 0,vB false]
theorem zrows_le (n:Nat) (i:Nat) (r':List V) (j:Nat) (v':V) (h1:(vR (newG n 0).vens)[i]?=some r') (h2:r'[j]?=some v'):∃r0 v,(List.replicate n zVen)[i]?=some r0∧r0[j]?=some v∧VLe v' v:=by
 rw[List.getElem?_map]at h1
 have hi:i<n:=by
  cases h:(newG n 0).vens[i]? with
  | none=>rw[h]at h1;cases h1
  | some v=>have:=(List.getElem?_eq_some_iff.1 h).1;simpa[newG] using this
 have e:(newG n 0).vens[i]?=some default:=by simp[newG,List.getElem?_replicate,hi]
 rw[e]at h1
 cases h1
 refine ⟨zVen,?_⟩
 rw[List.getElem?_replicate,if_pos hi]
 match j,h2 with
 | 0,h2=>cases h2;exact ⟨_,rfl,rfl,rfl,rfl⟩
 | 1,h2=>cases h2;exact ⟨_,rfl,rfl,rfl,rfl⟩
 | 2,h2=>cases h2;exact ⟨_,rfl,rfl,rfl,rfl⟩
 | 3,h2=>cases h2;exact ⟨_,rfl,rfl,rfl⟩
 | 4,h2=>cases h2;exact ⟨_,rfl,rfl,rfl⟩
 | 5,h2=>cases h2;exact ⟨_,rfl,rfl,rfl,rfl⟩
 | 6,h2=>cases h2;exact ⟨_,rfl,rfl,rfl⟩
 | 7,h2=>cases h2;exact ⟨_,rfl,rfl,rfl⟩
 | n+8,h2=>simp at h2
theorem gnew_c (n:Nat) (p:Int) (h1:1≤n) (h4:n≤4) (hp:timeP p):ACall Tryz.prog 23 [] [I n,I p] (.t [.a (gtC (newG n p)),.c (.v (vI 0))]) []:=by
 have ht:=isTime_c p hp
 refine Ac Tryz.func23 ?_
 refine Wk trivial @ht ?_
 refine Cc ?_ ?_<;>intro hc<;>(try simp only[Za,ne_eq]at hc)
 ·omega
 ·(repeat (first|refine AWp.seq ?_|refine AWp.block ?_|refine AWp.skip ?_));(first|refine AWp.text (own:=nO) tG_ok (by kernel_rfl) (fun K hK=>?_)|refine AWp.draw (own:=nO) tG_ok mixed (by kernel_rfl) (by kernel_rfl) (fun K hK=>?_));(repeat' (revert hK;intro hK;first|(with_reducible refine hK _ _ _ ?_;clear hK K)|(with_reducible refine hK _ _ _ ?_ ?_;(focus kernel_rfl);clear hK K)|((with_reducible change CallS _ _ _ _ _ _);(first|refine CallS.of ht ?_))|(with_reducible refine And.intro ?_ ?_)|(simp (disch:=omega) only[↓reduceIte,Zo,backT,pos,idsB,idsC,nodup,live,makeSliceE,viewE,viewFE,appendUE,appendFE,capFE,copyE,copySrc,clearE,guardB,isNilOp,nilS,withTy,splice,lenE,appendE,sliceE,boundE,indexAddrE,indexE,buildE,fillE,buildSliceE,partsE,builtinE,minE,minI,convE,convHE,appendNE,capE,D.x,id_eq,eq_self,if_true,if_false,ne_eq,implies_true,Nat.reduceAdd,Nat.reduceMul,Nat.reduceSub,Nat.reduceEqDiff,Nat.reduceLT,Nat.reduceLeDiff,reduceCtorEq,Zp,forall_const,Nat.reduceBEq,Int.reduceEq,Int.reduceToNat,bne_self_eq_false,true_and,tyAll])|(first|omega|(intro hq;(try simp only[Za,ne_eq,Bool.not_not,Bool.and_true]at hq);first|omega|assumption|(simp_all;done))|(simp_all;done))|(intro (bn:Bool) hbn)))
  change AWp _ _ _ _ _ _
  refine AWp.le (st2:=mkSt [(4,.p 0 0),(5,I 0)] [(0,.loc [.o 1 n,.v (.x (.slice none 0 0)),.v (vB false),.v (vI 0),.v (vI p)]),(1,.row 8 (List.replicate n zVen))] 2) (by refine Le.of (τ:=[(1,896)]) (ν:=[]) (by kernel_rfl) ?_ ?_<;>((first|exact Lw trivial trivial|refine Lw trivial ?_);try (first|omega|rfl|exact ⟨rfl,rfl⟩))) ?_
  refine AWp.rows (r:=1) (k:=8) (rows:=List.replicate n zVen) (by rfl) (vR (newG n 0).vens) (by simp[newG]) (fun r' h=>by obtain ⟨v,_,rfl⟩:=List.mem_map.1 h;rfl) (zrows_le n) ?_
  refine Wk trivial @ht ?_
  first|exact Fn @Tryz.results23 trivial trivial|refine Fn @Tryz.results23 trivial ?_
  exact ⟨⟨(List.take_of_length_le (by simp[newG])).symm,by simp[newG]⟩,rfl,rfl,rfl,rfl⟩
def newE (n:Nat) (p:Int):Kee:=⟨n,p,ND.put (ND.first 1 []),[],[],[],1⟩
theorem newE_right (n:Nat) (p:Int):keeP (newE n p):=by
 refine ⟨?_,by show (0:Nat)+0≤_;omega,by show (1:Int)≤1∧(1:Int)≤_;omega⟩
 have h:=ND.put_len (ND.first 1 [])
 have h2:=ND.first_len 1 []
 show (ND.put (ND.first 1 [])).length+0≤_
 rw[h,h2];decide
abbrev zDisk:D:=.e (.a [.v (.x (.slice none 0 0)),.v (.x (.slice none 0 0)),.v (.x (.slice none 0 0)),.v (.x (.slice none 0 0))])
theorem look_nil:ND.lookF ([]++[])=none:=by
 unfold ND.lookF
 rw[List.append_nil,ND.all_nil]
theorem byt_nil:ND.Byt ([]++[]):=fun j=>by simp
theorem raise_c (n:Nat) (p:Int) (h1:1≤n) (h4:n≤4) (hp:timeP p):ACall Tryz.prog 30 [] [I n,I p,zDisk] (.t [.a (keC (newE n p) (newG n p)),.c (.v (vI 0))]) []:=by
 have hg:=gnew_c n p h1 h4 hp
 have ho:=(ND.openN_c [] [] [] [] look_nil look_nil byt_nil byt_nil ⟨by decide,by decide⟩).args (bs:=[zDisk]) (by simp only[q_P,q_VLe,q_cells,List.map_nil,and_self,and_true,true_and,eq_self])
 refine Ac Tryz.func30 ?_
 refine Wk trivial (An @hg @ho) ?_
 refine Cc ?_ ?_<;>intro hc<;>(try simp only[Za,ne_eq]at hc)
 ·contradiction
 ·refine Wk trivial (An @hg @ho) ?_
  refine Cc ?_ ?_<;>intro hc<;>(try simp only[Za,ne_eq]at hc)
  ·contradiction
  ·refine Wk trivial (An @hg @ho) ?_
   refine AWp.loop (fun _:Nat=>mkSt [(0,I n),(1,I p),(6,.p 1 0),(8,.p 2 0),(10,.p 3 0),(40,.e (.c (.v (.s 1 [])))),(41,I 0),(42,I 0)]
    [(0,.loc [.v (.x (.slice none 0 0)),.v (.x (.slice none 0 0)),.v (.x (.slice none 0 0)),.v (.x (.slice none 0 0))]),(1,.loc kzC),(2,.loc (gtC (newG n p))),(3,.loc (ND.jA (ND.put (ND.first 1 [])) [] [] [] 0 1))] 4)
    (fun k=>k=0) (fun _=>0) 0 rfl (by refine Le.of (τ:=[(1,64),(2,576),(3,1344)]) (ν:=[]) (by kernel_rfl) ?_ ?_<;>((first|exact Lw trivial trivial|refine Lw trivial ?_);try (first|omega|rfl|exact ⟨rfl,rfl⟩))) fun k hk=>?_
   refine Wk trivial (An @hg @ho) ?_
   refine Cc ?_ ?_<;>intro hc<;>(try simp only[Za,ne_eq]at hc)
   ·omega
   ·refine Wk trivial (An @hg @ho) ?_
    first|exact Fn @Tryz.results30 trivial trivial|refine Fn @Tryz.results30 trivial ?_
    exact ⟨rfl,rfl,rfl,rfl,rfl,rfl,rfl⟩
theorem knew_c (n:Nat) (p:Int) (h1:1≤n) (h4:n≤4) (hp:timeP p):ACall Tryz.prog 7 [] [I n,I p] (.t [.a (keC (newE n p) (newG n p)),.c (.v (vI 0))]) []:=by
 have hg:True:=trivial
 have ho:=raise_c n p h1 h4 hp
 refine Ac Tryz.func7 ?_
 refine Wk trivial (An @hg @ho) ?_
 first|exact Fn @Tryz.results7 trivial trivial|refine Fn @Tryz.results7 trivial ?_




abbrev aV (a:Ask):List V:=[vI a.kind,vI a.ven,vS a.o.id,vS a.o.acc,vS a.o.sym,vB a.o.buy,vI a.o.qty,vI a.o.price,vI a.o.done,vB a.o.op,vS a.id,
 vS a.x.id,vS a.x.ref,vS a.x.ord,vS a.x.acc,vS a.x.sym,vI a.x.kind,vB a.x.buy,vI a.x.qty,vI a.x.price,vI a.x.time,vI a.now,vB a.on,
 vS a.l.acc,vS a.l.sym,vI a.l.long,vI a.l.short,vI a.l.qty,vI a.l.value]
instance :Inhabited Ask:=⟨⟨0,0,default,default,⟨⟨#[]⟩,⟨#[]⟩,⟨#[]⟩,⟨#[]⟩,⟨#[]⟩,0,false,0,0,0⟩,0,false,default⟩⟩
abbrev aR (l:List Ask):List (List V):=l.map aV
abbrev asksD (l:List Ask):D:=.e (.c (.v (.s 29 (aR l))))
theorem getD_aR (l:List Ask) (i:Nat) (d:List V) (h:i<l.length):(l.map aV).getD i d=aV (l.getD i default):=by
 simp[List.getD_eq_getElem?_getD,h]
section
open Go.ChangeShapes Go.WideShapes Go.ChangeAt Go.RowKit
theorem own_none:ownKnob Tryz.prog.godebug=none:=by kernel_rfl
theorem laid_out:laidOutB Tryz.prog=true:=by kernel_rfl
theorem Zj {P:Program} {off off':Nat} {t:TypeId} {fs:List (Nat×TypeId)} {A B:List V→Prop} (ho:off+P.cellsOf t=off') (h:Rd P t A) (hs:RdL P off' fs B):RdL P off ((off,t)::fs) fun vs=>∃a b,A a∧B b∧vs=a++b:=by
 subst ho;exact .cons h hs
theorem arg_int {t:TypeId} {k:IntKind} (hu:Tryz.prog.underlying t=some (.int k)):ArgRd Tryz.prog t fun x=>∃n:Int,k.min≤n∧n≤k.max∧x=.e (.c (.v (.x (.int k n)))) :=
 (arg_one hu rfl (rd_int hu) (fun vs ⟨n,_,_,h⟩=>by rw[h];rfl)).imp fun x ⟨a,⟨n,h1,h2,h⟩,hx⟩=>⟨n,h1,h2,by rw[hx];simp only[List.cons.injEq,and_true]at h;rw[h]⟩
theorem rd_i:Rd Tryz.prog 2 fun vs=>∃n:Int,vs=[vI n]:=(rd_int (k:=.i64) (by kernel_rfl)).imp fun _ ⟨n,_,_,h⟩=>⟨n,h⟩
theorem rd_n:Rd Tryz.prog 3 fun vs=>∃n:Int,vs=[vI n]:=(rd_int (k:=.i64) (by kernel_rfl)).imp fun _ ⟨n,_,_,h⟩=>⟨n,h⟩
theorem rd_s:Rd Tryz.prog 9 fun vs=>∃s:ByteArray,vs=[vS s]:=(rd_string (by kernel_rfl)).imp fun _ ⟨s,_,h⟩=>⟨s,h⟩
theorem rd_b:Rd Tryz.prog 4 fun vs=>∃b:Bool,vs=[vB b]:=(rd_bool (by kernel_rfl))
theorem rd_lim:Rd Tryz.prog 48 fun vs=>∃x:NA.Lim,vs=NA.lV x:=by
 refine (rd_structL (l:=[(0,9),(1,9),(2,2),(3,2),(4,2),(5,2)]) (by kernel_rfl) (by kernel_rfl)
  (Zj (off':=1) (by kernel_rfl) rd_s (Zj (off':=2) (by kernel_rfl) rd_s (Zj (off':=3) (by kernel_rfl) rd_i (Zj (off':=4) (by kernel_rfl) rd_i (Zj (off':=5) (by kernel_rfl) rd_i (Zj (off':=6) (by kernel_rfl) rd_i (RdL.nil _)))))))).imp ?_
 rintro vs ⟨_,_,⟨a,rfl⟩,⟨_,_,⟨b,rfl⟩,⟨_,_,⟨c,rfl⟩,⟨_,_,⟨d,rfl⟩,⟨_,_,⟨e,rfl⟩,⟨_,_,⟨f,rfl⟩,rfl,rfl⟩,rfl⟩,rfl⟩,rfl⟩,rfl⟩,rfl⟩
 exact ⟨⟨a,b,c,d,e,f⟩,rfl⟩
abbrev oVv (o:Ord):List V:=[V.x (.string o.id),V.x (.string o.acc),V.x (.string o.sym),V.x (.bool o.buy),V.x (.int .i64 o.qty),V.x (.int .i64 o.price),V.x (.int .i64 o.done),V.x (.bool o.op)]
theorem rd_ord:Rd Tryz.prog 44 fun vs=>∃o:Ord,vs=oVv o:=by
 refine (rd_structL (l:=[(0,9),(1,9),(2,9),(3,4),(4,2),(5,2),(6,2),(7,4)]) (by kernel_rfl) (by kernel_rfl)
  (Zj (off':=1) (by kernel_rfl) rd_s (Zj (off':=2) (by kernel_rfl) rd_s (Zj (off':=3) (by kernel_rfl) rd_s (Zj (off':=4) (by kernel_rfl) rd_b (Zj (off':=5) (by kernel_rfl) rd_i (Zj (off':=6) (by kernel_rfl) rd_i (Zj (off':=7) (by kernel_rfl) rd_i (Zj (off':=8) (by kernel_rfl) rd_b (RdL.nil _)))))))))).imp ?_
 rintro vs ⟨_,_,⟨a,rfl⟩,⟨_,_,⟨b,rfl⟩,⟨_,_,⟨c,rfl⟩,⟨_,_,⟨d,rfl⟩,⟨_,_,⟨e,rfl⟩,⟨_,_,⟨f,rfl⟩,⟨_,_,⟨g,rfl⟩,⟨_,_,⟨h,rfl⟩,rfl,rfl⟩,rfl⟩,rfl⟩,rfl⟩,rfl⟩,rfl⟩,rfl⟩,rfl⟩
 exact ⟨⟨a,b,c,d,e,f,g,h⟩,rfl⟩
theorem rd_exe:Rd Tryz.prog 46 fun vs=>∃x:Exe,vs=[vS x.id,vS x.ref,vS x.ord,vS x.acc,vS x.sym,vI x.kind,vB x.buy,vI x.qty,vI x.price,vI x.time]:=by
 refine (rd_structL (l:=[(0,9),(1,9),(2,9),(3,9),(4,9),(5,3),(6,4),(7,2),(8,2),(9,2)]) (by kernel_rfl) (by kernel_rfl)
  (Zj (off':=1) (by kernel_rfl) rd_s (Zj (off':=2) (by kernel_rfl) rd_s (Zj (off':=3) (by kernel_rfl) rd_s (Zj (off':=4) (by kernel_rfl) rd_s (Zj (off':=5) (by kernel_rfl) rd_s (Zj (off':=6) (by kernel_rfl) rd_n (Zj (off':=7) (by kernel_rfl) rd_b (Zj (off':=8) (by kernel_rfl) rd_i (Zj (off':=9) (by kernel_rfl) rd_i (Zj (off':=10) (by kernel_rfl) rd_i (RdL.nil _)))))))))))).imp ?_
 rintro vs ⟨_,_,⟨a,rfl⟩,⟨_,_,⟨b,rfl⟩,⟨_,_,⟨c,rfl⟩,⟨_,_,⟨d,rfl⟩,⟨_,_,⟨e,rfl⟩,⟨_,_,⟨f,rfl⟩,⟨_,_,⟨g,rfl⟩,⟨_,_,⟨h,rfl⟩,⟨_,_,⟨i,rfl⟩,⟨_,_,⟨j,rfl⟩,rfl,rfl⟩,rfl⟩,rfl⟩,rfl⟩,rfl⟩,rfl⟩,rfl⟩,rfl⟩,rfl⟩,rfl⟩
 exact ⟨⟨a,b,c,d,e,f,g,h,i,j⟩,rfl⟩
theorem rd_ask:Rd Tryz.prog 50 fun vs=>∃a:Ask,vs=aV a:=by
 refine (rd_structL (l:=[(0,3),(1,3),(2,44),(10,9),(11,46),(21,2),(22,4),(23,48)]) (by kernel_rfl) (by kernel_rfl)
  (Zj (off':=1) (by kernel_rfl) rd_n (Zj (off':=2) (by kernel_rfl) rd_n (Zj (off':=10) (by kernel_rfl) rd_ord (Zj (off':=11) (by kernel_rfl) rd_s (Zj (off':=21) (by kernel_rfl) rd_exe (Zj (off':=22) (by kernel_rfl) rd_i (Zj (off':=23) (by kernel_rfl) rd_b (Zj (off':=29) (by kernel_rfl) rd_lim (RdL.nil _)))))))))).imp ?_
 rintro vs ⟨_,_,⟨a,rfl⟩,⟨_,_,⟨b,rfl⟩,⟨_,_,⟨c,rfl⟩,⟨_,_,⟨d,rfl⟩,⟨_,_,⟨e,rfl⟩,⟨_,_,⟨f,rfl⟩,⟨_,_,⟨g,rfl⟩,⟨_,_,⟨h,rfl⟩,rfl,rfl⟩,rfl⟩,rfl⟩,rfl⟩,rfl⟩,rfl⟩,rfl⟩,rfl⟩
 exact ⟨⟨a,b,c,d,e,f,g,h⟩,rfl⟩
theorem arg_asks:ArgRd Tryz.prog 22 fun x=>∃l:List Ask,x=asksD l:=by
 refine (arg_one (ds:=.slice 50) (by kernel_rfl) rfl (rd_slice (e:=50) (by kernel_rfl) rd_ask) (fun vs ⟨n,_,_,h⟩=>by rw[h];rfl)).imp ?_
 rintro x ⟨a,⟨rows,hr,_,h⟩,rfl⟩
 obtain ⟨l,hl,rfl,_⟩:=rows_map (f:=aV) (Q:=fun _=>True) (rows:=rows) fun r h=>let ⟨o,e⟩:=hr r h;⟨o,trivial,e⟩
 simp only[List.cons.injEq,and_true]at h
 exact ⟨l,by rw[h,show Tryz.prog.cellsOf 50=29 by kernel_rfl]⟩
end
namespace NA
structure Pos where
 acc:ByteArray
 sym:ByteArray
 qty:Int
 value:Int
 over:Bool
deriving DecidableEq
instance :Inhabited Pos:=⟨⟨⟨#[]⟩,⟨#[]⟩,0,0,false⟩⟩
abbrev pD (x:Pos):D:=.e (.a [.v (.x (.string x.acc)),.v (.x (.string x.sym)),.v (.x (.int .i64 x.qty)),.v (.x (.int .i64 x.value)),.v (.x (.bool x.over))])
abbrev pR (l:List Pos):List (List V):=l.map fun x=>[V.x (.string x.acc),V.x (.string x.sym),V.x (.int .i64 x.qty),V.x (.int .i64 x.value),V.x (.bool x.over)]
abbrev psD (l:List Pos):D:=.e (.c (.v (.s 5 (pR l))))
theorem getD_pR (l:List Pos) (i:Nat):(l.map fun x=>[V.x (.string x.acc),V.x (.string x.sym),V.x (.int .i64 x.qty),V.x (.int .i64 x.value),V.x (.bool x.over)]).getD i [V.x (.string ⟨#[]⟩),V.x (.string ⟨#[]⟩),V.x (.int .i64 0),V.x (.int .i64 0),V.x (.bool false)] =
 [V.x (.string (l.getD i default).acc),V.x (.string (l.getD i default).sym),V.x (.int .i64 (l.getD i default).qty),V.x (.int .i64 (l.getD i default).value),V.x (.bool (l.getD i default).over)]:=by
 simp only[List.getD_eq_getElem?_getD,List.getElem?_map]
 cases l[i]?<;>rfl
def cmpP (a b:Pos):Int:=if cmpS a.acc b.acc≠0 then cmpS a.acc b.acc else cmpS a.sym b.sym
def orS:List Int→Int
 | []=>0
 | n::l=>if n≠0 then n else orS l
def qAQ11:=PLift.up (An @getD_rI (An @getD_pR (An @List.getD_cons_zero.{0} @List.getD_cons_succ.{0})))
theorem or_g (l:List Int) (hl:l.length≤1000000):ACall Tryz.prog 38 [] [.e (.c (.v (.s 1 (l.map fun n=>[V.x (.int .i64 n)]))))] (I (orS l)) []:=by
 have hq2:True:=trivial
 have hq3:True:=trivial
 have hq1:True:=trivial
 obtain ⟨r,hr⟩:∃r,orS l=r:=⟨_,rfl⟩
 rw[hr]
 refine Ac Tryz.func38 ?_
 refine Wk (An @hq1 (An @hq2 (An @hq3 qAQ11.1))) @cmpS_c ?_
 refine AWp.loop (τ:=ren []) (fun k:Nat=>mkSt [(6,.e (.c (.v (.s 1 (l.map fun n=>[V.x (.int .i64 n)]))))),(2,I 0),(3,I 0),(7,I l.length),(8,I k)] [] 0) (fun k=>k≤l.length∧orS (l.drop k)=r) (fun k=>l.length - k) 0 ⟨Nat.zero_le _,hr⟩ (by refine Le.of (τ:=[]) (ν:=[]) (by kernel_rfl) ?_ ?_<;>((refine Lv (An @hq1 (An @hq2 (An @hq3 qAQ11.1))) fun eE=>?_;first|exact Lw (@Box.out _ eE) trivial|refine Lw (@Box.out _ eE) ?_);try omega)) fun k hk=>?_
 obtain ⟨hk,hr2⟩:=hk
 by_cases hkl:k<l.length
 ·obtain ⟨x,hx⟩:∃x,l.getD k 0=x:=⟨_,rfl⟩
  have hq1:=hx
  have hd:l.drop k=x::l.drop (k+1):=by
   rw[←hx,List.getD_eq_getElem?_getD,List.getElem?_eq_getElem hkl]
   exact List.drop_eq_getElem_cons hkl
  rw[hd]at hr2
  refine Wk (An @hq1 (An @hq2 (An @hq3 qAQ11.1))) @cmpS_c ?_
  refine Cc ?_ ?_<;>intro hc<;>(try simp only[Za,ne_eq]at hc)
  ·refine Wk (An @hq1 (An @hq2 (An @hq3 qAQ11.1))) @cmpS_c ?_
   refine Cc ?_ ?_<;>intro hc<;>(try simp only[Za,ne_eq]at hc)
   ·have e:x=r:=by rw[←hr2];show x=if x≠0 then x else _;rw[if_pos hc]
    subst e
    refine Wk (An @hq1 (An @hq2 (An @hq3 qAQ11.1))) @cmpS_c ?_
    first|exact Fn @Tryz.results38 (An @hq1 (An @hq2 (An @hq3 qAQ11.1))) trivial|refine Fn @Tryz.results38 (An @hq1 (An @hq2 (An @hq3 qAQ11.1))) ?_
   ·refine Wk (An @hq1 (An @hq2 (An @hq3 qAQ11.1))) @cmpS_c ?_
    refine Zb (τ:=ren []) (ν:=[]) (k+1) ⟨hkl,by rw[←hr2];show _=if x≠0 then x else _;rw[if_neg (fun h=>h hc)]⟩ (by omega) ?_
    refine Le.of (by kernel_rfl) ?_ ?_<;>((refine Lv (An @hq1 (An @hq2 (An @hq3 qAQ11.1))) fun eE=>?_;first|exact Lw (@Box.out _ eE) trivial|refine Lw (@Box.out _ eE) ?_);try omega)
  ·omega
 ·obtain rfl:k=l.length:=by omega
  rw[List.drop_length]at hr2
  have e:r=0:=hr2.symm
  subst e
  refine Wk (An @hq1 (An @hq2 (An @hq3 qAQ11.1))) @cmpS_c ?_
  refine Cc ?_ ?_<;>intro hc<;>(try simp only[Za,ne_eq]at hc)
  ·omega
  ·refine Wk (An @hq1 (An @hq2 (An @hq3 qAQ11.1))) @cmpS_c ?_
   first|exact Fn @Tryz.results38 (An @hq1 (An @hq2 (An @hq3 qAQ11.1))) trivial|refine Fn @Tryz.results38 (An @hq1 (An @hq2 (An @hq3 qAQ11.1))) ?_
theorem or_c (a b:Int):ACall Tryz.prog 38 [] [.e (.c (.v (.s 1 [[V.x (.int .i64 a)],[V.x (.int .i64 b)]])))] (I (if a≠0 then a else b)) []:=by
 have h:=or_g [a,b] (by simp)
 have e:orS [a,b]=if a≠0 then a else b:=by
  show (if a≠0 then a else if b≠0 then b else 0)=_
  by_cases hb:b≠0
  ·rw[if_pos hb]
  ·rw[if_neg hb,show b=0 by omega]
 rw[e]at h
 exact h
theorem Ze (a b:Pos):ACall Tryz.prog 43 [] [pD a,pD b] (I (cmpP a b)) []:=by
 have hq1:True:=trivial
 have hq2:True:=trivial
 have hq3:True:=trivial
 have hor:=or_c (cmpS a.acc b.acc) (cmpS a.sym b.sym)
 refine Ac Tryz.func43 ?_
 refine Wk (An @hq1 (An @hq2 (An @hq3 qAQ11.1))) (An @hor @cmpS_c) ?_
 first|exact Fn @Tryz.results43 (An @hq1 (An @hq2 (An @hq3 qAQ11.1))) trivial|refine Fn @Tryz.results43 (An @hq1 (An @hq2 (An @hq3 qAQ11.1))) ?_
 rfl
theorem cmpP_eq {a b:Pos}:cmpP a b=0↔a.acc=b.acc∧a.sym=b.sym:=by
 unfold cmpP
 by_cases h:cmpS a.acc b.acc=0
 ·rw[if_neg (fun x=>x h),Z6,←Z6 (a:=a.acc)];exact ⟨fun x=>⟨h,x⟩,fun x=>x.2⟩
 ·rw[if_pos h];exact ⟨fun x=>absurd x h,fun x=>absurd (Z6.2 x.1) h⟩
theorem Yp (b a:Pos):cmpP b a=- cmpP a b:=by
 unfold cmpP
 rcases cmpS_cases a.acc b.acc with ⟨h1,h2⟩|⟨h1,h2⟩|⟨h1,h2⟩
 ·rw[if_pos (by omega),if_pos (by omega)];omega
 ·have h3:cmpS b.acc a.acc=0:=Z6.2 h2.symm
  rw[if_neg (by omega),if_neg (by omega)]
  rcases cmpS_cases a.sym b.sym with ⟨h1,h2⟩|⟨h1,h2⟩|⟨h1,h2⟩
  ·omega
  ·have:=Z6.2 h2.symm;omega
  ·omega
 ·rw[if_pos (by omega),if_pos (by omega)];omega
theorem cmpP_trans {a b c:Pos} (h1:cmpP a b<0) (h2:cmpP b c<0):cmpP a c<0:=by
 have tr:∀ {x y z:ByteArray},cmpS x y<0→cmpS y z<0→cmpS x z<0:=fun h1 h2=>cmpS_lt.2 (bl_trans _ _ _ (cmpS_lt.1 h1) (cmpS_lt.1 h2))
 unfold cmpP at *
 by_cases e1:cmpS a.acc b.acc=0
 ·rw[if_neg (fun x=>x e1)]at h1
  have ha:=Z6.1 e1
  rw[ha]
  by_cases e2:cmpS b.acc c.acc=0
  ·rw[if_neg (fun x=>x e2)]at h2 ⊢
   exact tr h1 h2
  ·rw[if_pos e2]at h2 ⊢
   exact h2
 ·rw[if_pos e1]at h1
  by_cases e2:cmpS b.acc c.acc=0
  ·have hb:=Z6.1 e2
   rw[←hb,if_pos e1]
   exact h1
  ·rw[if_pos e2]at h2
   have:=tr h1 h2
   rw[if_pos (by omega)]
   exact this
end NA
namespace NA
theorem pR_set (l:List Pos) (i:Nat) (x:Pos):(pR l).set i [V.x (.string x.acc),V.x (.string x.sym),V.x (.int .i64 x.qty),V.x (.int .i64 x.value),V.x (.bool x.over)]=pR (l.set i x):=by
 unfold pR;rw[List.map_set]
theorem pR_store (m:List Pos) (i:Nat) (y:Pos):(pR m).set i (V.x (.string y.acc)::V.x (.string y.sym)::V.x (.int .i64 y.qty)::V.x (.int .i64 y.value)::V.x (.bool y.over)::List.drop 5 ((pR m).getD i []))=pR (m.set i y):=by
 have e:List.drop 5 ((pR m).getD i [])=[]:=by
  unfold pR
  rw[List.getD_eq_getElem?_getD,List.getElem?_map]
  cases m[i]?<;>rfl
 rw[e];exact pR_set m i y
theorem rowAt_p (l:List Pos) (i:Nat):rowAt ty69 (pR l) i 0=[V.x (.string (l.getD i default).acc),V.x (.string (l.getD i default).sym),V.x (.int .i64 (l.getD i default).qty),V.x (.int .i64 (l.getD i default).value),V.x (.bool (l.getD i default).over)]:=by
 have hz:zeroV ty69=[.x (.string ⟨#[]⟩),.x (.string ⟨#[]⟩),.x (.int .i64 0),.x (.int .i64 0),.x (.bool false)]:=by kernel_rfl
 unfold rowAt pR
 simp only[List.getD_eq_getElem?_getD,List.getElem?_map]
 cases l[i]? with
 | none=>simp only[Option.map_none,hz];rfl
 | some x=>rfl
def swp (l:List Pos) (i j:Nat):List Pos:=(l.set i (l.getD j default)).set j (l.getD i default)
theorem Z2 (l:List Pos) (i j:Nat):(swp l i j).length=l.length:=by unfold swp;simp
def insJ (a:Nat):Nat→List Pos→List Pos
 | 0,l=>l
 | j+1,l=>if a<j+1∧cmpP (l.getD (j+1) default) (l.getD j default)<0 then insJ a j (swp l (j+1) j) else l
def insI' (a:Nat):Nat→Nat→List Pos→List Pos
 | 0,_,l=>l
 | c+1,i,l=>insI' a c (i+1) (insJ a i l)
theorem insJ_len (a:Nat):∀(j:Nat) (l:List Pos),(insJ a j l).length=l.length
 | 0,l=>rfl
 | j+1,l=>by
  unfold insJ
  split
  ·rw[insJ_len a j,Z2]
  ·rfl
theorem insJ_stop {a j:Nat} {l:List Pos} (h:¬a<j):insJ a j l=l:=by
 cases j with
 | zero=>rfl
 | succ j=>rw[insJ,if_neg (fun h2=>h h2.1)]
def qAQ21:=PLift.up (An @evO_f (An @getD_pR (An @rowAt_p (An @pR_set (An @List.length_map.{0,0} (An @List.length_set.{0} (An @tn1 (An @Int.natCast_add (An @Int.natCast_one (An @Int.add_sub_cancel @Int.toNat_natCast))))))))))
theorem ins_c (l:List Pos) (a b:Nat) (hl:l.length≤1000000) (hab:a≤b∧b≤l.length) (r:List Pos) (hr:insI' a (b - (a+1)) (a+1) l=r) :
 ACall Tryz.prog 173 [.row 5 (pR l)] [.e (.c (.o 0 l.length)),I a,I b,fD 43] (.t []) [.row 5 (pR r)]:=by
 have hq1:True:=trivial
 have hq2:True:=trivial
 have hq3:True:=trivial
 obtain ⟨N,hN⟩:∃N,l.length=N:=⟨_,rfl⟩
 refine Ac Tryz.func173 ?_
 refine Wo (Own.mk (f:=(oF [42,111,173,174,222,260]))) (An @hq1 (An @hq2 (An @hq3 qAQ21.1))) (fun u1 u2 u3 u4 u5 u6 u7 u8 u9 u10=>Ze ⟨u1,u2,u3,u4,u5⟩ ⟨u6,u7,u8,u9,u10⟩) ?_
 refine AWp.loop (τ:=ren []) (fun s:Nat×List Pos=>mkSt [(0,.e (.c (.o 0 N))),(1,I a),(2,I b),(3,fD 43),(8,I s.1)] [(0,.row 5 (pR s.2))] 1) (fun s=>a+1≤s.1∧(s.1≤b∨s.1=a+1)∧s.2.length=N∧insI' a (b - s.1) s.1 s.2=r) (fun s=>b - s.1) (a+1,l) ⟨by omega,.inr rfl,hN,hr⟩ (by rw[hN];refine Le.of (ν:=[]) (by kernel_rfl) ?_ ?_<;>((refine Lv (An @hq1 (An @hq2 (An @hq3 qAQ21.1))) fun eE=>?_;first|exact Lw (@Box.out _ eE) trivial|refine Lw (@Box.out _ eE) ?_);try omega)) fun s hs=>?_
 obtain ⟨i,m⟩:=s
 obtain ⟨hi1,hi2,hm,hres⟩:=hs
 dsimp only at hi1 hi2 hm hres ⊢
 by_cases hib:i<b
 ·refine Wo (Own.mk (f:=(oF [42,111,173,174,222,260]))) (An @hq1 (An @hq2 (An @hq3 qAQ21.1))) (fun u1 u2 u3 u4 u5 u6 u7 u8 u9 u10=>Ze ⟨u1,u2,u3,u4,u5⟩ ⟨u6,u7,u8,u9,u10⟩) ?_
  refine Cc ?_ ?_<;>intro hc<;>(try simp only[Za,ne_eq]at hc)
  ·obtain ⟨m2,hm2⟩:∃m2,insJ a i m=m2:=⟨_,rfl⟩
   have hres2:insI' a (b - (i+1)) (i+1) m2=r:=by
    rw[←hm2,←hres,show b - i=(b - (i+1))+1 by omega];rfl
   have hm2l:m2.length=N:=by rw[←hm2,insJ_len,hm]
   refine Wo (Own.mk (f:=(oF [42,111,173,174,222,260]))) (An @hq1 (An @hq2 (An @hq3 qAQ21.1))) (fun u1 u2 u3 u4 u5 u6 u7 u8 u9 u10=>Ze ⟨u1,u2,u3,u4,u5⟩ ⟨u6,u7,u8,u9,u10⟩) ?_
   refine AWp.loop (τ:=ren []) (fun s:Nat×List Pos=>mkSt [(0,.e (.c (.o 0 N))),(1,I a),(2,I b),(3,fD 43),(8,I i),(9,I s.1)] [(0,.row 5 (pR s.2))] 1) (fun s=>s.1≤i∧s.2.length=N∧insJ a s.1 s.2=m2) (fun s=>s.1) (i,m) ⟨Nat.le_refl _,hm,hm2⟩ (by refine Le.of (ν:=[]) (by kernel_rfl) ?_ ?_<;>((refine Lv (An @hq1 (An @hq2 (An @hq3 qAQ21.1))) fun eE=>?_;first|exact Lw (@Box.out _ eE) trivial|refine Lw (@Box.out _ eE) ?_);try omega)) fun s hs=>?_
   clear hm hm2 hres
   obtain ⟨j,m⟩:=s
   obtain ⟨hj,hm,hm2⟩:=hs
   dsimp only at hj hm hm2 ⊢
   by_cases haj:a<j
   ·obtain ⟨j,rfl⟩:∃k,j=k+1:=⟨j - 1,by omega⟩
    obtain ⟨x,hx⟩:∃x,m.getD (j+1) default=x:=⟨_,rfl⟩
    obtain ⟨y,hy⟩:∃y,m.getD j default=y:=⟨_,rfl⟩
    have hq1:=hx
    have hq2:=hy
    rw[insJ,hx,hy]at hm2
    refine Wo (Own.mk (f:=(oF [42,111,173,174,222,260]))) (An @hq1 (An @hq2 (An @hq3 qAQ21.1))) (fun u1 u2 u3 u4 u5 u6 u7 u8 u9 u10=>Ze ⟨u1,u2,u3,u4,u5⟩ ⟨u6,u7,u8,u9,u10⟩) ?_
    refine Cc ?_ ?_<;>intro hc<;>(try simp only[Za,ne_eq]at hc)
    ·rw[if_pos ⟨haj,hc.2⟩]at hm2
     have hq3:(m.set (j+1) y).set j x=swp m (j+1) j:=by unfold swp;rw[hx,hy]
     refine Wo (Own.mk (f:=(oF [42,111,173,174,222,260]))) (An @hq1 (An @hq2 (An @hq3 qAQ21.1))) (fun u1 u2 u3 u4 u5 u6 u7 u8 u9 u10=>Ze ⟨u1,u2,u3,u4,u5⟩ ⟨u6,u7,u8,u9,u10⟩) ?_
     refine Zb (τ:=ren []) (ν:=[]) (j,swp m (j+1) j) ⟨by dsimp only;omega,by rw[Z2];exact hm,hm2⟩ (by dsimp only;omega) ?_
     refine Le.of (by kernel_rfl) ?_ ?_<;>((refine Lv (An @hq1 (An @hq2 (An @hq3 qAQ21.1))) fun eE=>?_;first|exact Lw (@Box.out _ eE) trivial|refine Lw (@Box.out _ eE) ?_);try (first|omega|(rw[pR_store,pR_store,hq3])))
    ·rw[if_neg (fun h=>by rcases hc with h1|h1;exact h1 (by omega);exact h1 h.2)]at hm2
     subst hm2
     refine Wo (Own.mk (f:=(oF [42,111,173,174,222,260]))) (An @hq1 (An @hq2 (An @hq3 qAQ21.1))) (fun u1 u2 u3 u4 u5 u6 u7 u8 u9 u10=>Ze ⟨u1,u2,u3,u4,u5⟩ ⟨u6,u7,u8,u9,u10⟩) ?_
     refine Zb (τ:=ren []) (ν:=[]) (i+1,m) ⟨by dsimp only;omega,.inl hib,hm,hres2⟩ (by dsimp only;omega) ?_
     refine Le.of (by kernel_rfl) ?_ ?_<;>((refine Lv (An @hq1 (An @hq2 (An @hq3 qAQ21.1))) fun eE=>?_;first|exact Lw (@Box.out _ eE) trivial|refine Lw (@Box.out _ eE) ?_);try omega)
   ·rw[insJ_stop haj]at hm2
    subst hm2
    refine Wo (Own.mk (f:=(oF [42,111,173,174,222,260]))) (An @hq1 (An @hq2 (An @hq3 qAQ21.1))) (fun u1 u2 u3 u4 u5 u6 u7 u8 u9 u10=>Ze ⟨u1,u2,u3,u4,u5⟩ ⟨u6,u7,u8,u9,u10⟩) ?_
    refine Cc ?_ ?_<;>intro hc<;>(try simp only[Za,ne_eq]at hc)
    ·omega
    ·refine Wo (Own.mk (f:=(oF [42,111,173,174,222,260]))) (An @hq1 (An @hq2 (An @hq3 qAQ21.1))) (fun u1 u2 u3 u4 u5 u6 u7 u8 u9 u10=>Ze ⟨u1,u2,u3,u4,u5⟩ ⟨u6,u7,u8,u9,u10⟩) ?_
     refine Zb (τ:=ren []) (ν:=[]) (i+1,m) ⟨by dsimp only;omega,.inl hib,hm,hres2⟩ (by dsimp only;omega) ?_
     refine Le.of (by kernel_rfl) ?_ ?_<;>((refine Lv (An @hq1 (An @hq2 (An @hq3 qAQ21.1))) fun eE=>?_;first|exact Lw (@Box.out _ eE) trivial|refine Lw (@Box.out _ eE) ?_);try omega)
  ·omega
 ·rw[show b - i=0 by omega]at hres
  refine Wo (Own.mk (f:=(oF [42,111,173,174,222,260]))) (An @hq1 (An @hq2 (An @hq3 qAQ21.1))) (fun u1 u2 u3 u4 u5 u6 u7 u8 u9 u10=>Ze ⟨u1,u2,u3,u4,u5⟩ ⟨u6,u7,u8,u9,u10⟩) ?_
  refine Cc ?_ ?_<;>intro hc<;>(try simp only[Za,ne_eq]at hc)
  ·omega
  ·refine Wo (Own.mk (f:=(oF [42,111,173,174,222,260]))) (An @hq1 (An @hq2 (An @hq3 qAQ21.1))) (fun u1 u2 u3 u4 u5 u6 u7 u8 u9 u10=>Ze ⟨u1,u2,u3,u4,u5⟩ ⟨u6,u7,u8,u9,u10⟩) ?_
   obtain rfl:m=r:=hres
   refine Fs @Tryz.results173 ?_
   refine ⟨[0],[],[],by kernel_rfl,?_,?_⟩<;>((refine Lv (An @hq1 (An @hq2 (An @hq3 qAQ21.1))) fun eE=>?_;first|exact Lw (@Box.out _ eE) trivial|refine Lw (@Box.out _ eE) ?_);try omega)
end NA
end Eng
end Go.Proofs.YtgenjpingdkmgaaGreatDoor
