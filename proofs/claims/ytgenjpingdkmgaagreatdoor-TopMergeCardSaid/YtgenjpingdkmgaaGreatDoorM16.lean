/- Contracts of functions that this seat's law calls. No condition. -/
import Derived.Lib.Bytealg
import Derived.Laws.Externs
import Derived.Test.YtgenjpingdkmgaaGreatDoorM15
set_option maxRecDepth 100000
set_option linter.unusedSimpArgs false
set_option linter.unusedVariables false
namespace Go.Proofs.YtgenjpingdkmgaaGreatDoor
namespace Eng
namespace NA
def rightP (l:List Lim):Prop:=l.length≤32∧∀i,i<l.length→mayL (l.getD i default)=true∧(0<i→cmpL (l.getD (i - 1) default) (l.getD i default)<0)
theorem rightYes_c (l:List Lim) (h:rightP l):ACall Tryz.prog 112 [] [lsD l] (B true) []:=by
 have hpr:True:=trivial
 have hright:True:=trivial
 have hl:=h.1
 refine Ac Tryz.func112 ?_
 refine Wk (An @hpr @Zc) (And.intro (fun u1 u2 u3 u4 u5 u6=>Zk ⟨u1,u2,u3,u4,u5,u6⟩) (And.intro (fun u1 u2 u3 u4 u5 u6 u7 u8 u9 u10 u11 u12=>Zl ⟨u1,u2,u3,u4,u5,u6⟩ ⟨u7,u8,u9,u10,u11,u12⟩) @hright)) ?_
 refine Cc ?_ ?_<;>intro hc<;>(try simp only[Za,ne_eq]at hc)
 ·omega
 ·refine Wk (An @hpr @Zc) (And.intro (fun u1 u2 u3 u4 u5 u6=>Zk ⟨u1,u2,u3,u4,u5,u6⟩) (And.intro (fun u1 u2 u3 u4 u5 u6 u7 u8 u9 u10 u11 u12=>Zl ⟨u1,u2,u3,u4,u5,u6⟩ ⟨u7,u8,u9,u10,u11,u12⟩) @hright)) ?_
  refine AWp.loop (fun i:Nat=>mkSt [(0,lsD l),(8,lsD l),(9,I l.length),(10,I i)] [] 0) (fun i=>i≤l.length) (fun i=>l.length - i) 0 (Nat.zero_le _) (by refine Le.of (τ:=[]) (ν:=[]) (by kernel_rfl) ?_ ?_<;>((refine Lv (An @hpr @Zc) fun eE=>?_;first|exact Lw (@Box.out _ eE) trivial|refine Lw (@Box.out _ eE) ?_);try rfl)) fun i hi=>?_
  refine Wk (An @hpr @Zc) (And.intro (fun u1 u2 u3 u4 u5 u6=>Zk ⟨u1,u2,u3,u4,u5,u6⟩) (And.intro (fun u1 u2 u3 u4 u5 u6 u7 u8 u9 u10 u11 u12=>Zl ⟨u1,u2,u3,u4,u5,u6⟩ ⟨u7,u8,u9,u10,u11,u12⟩) @hright)) ?_
  refine Cc ?_ ?_<;>intro hc<;>(try simp only[Za,ne_eq]at hc)
  ·have hil:i<l.length:=by omega
   have hm:=(h.2 i hil).1
   have hc2:=(h.2 i hil).2
   have hpr:0<i→((i:Int) - 1).toNat=i - 1:=fun _=>by omega
   by_cases hi0:i=0
   ·subst hi0
    refine Wk (An @hpr @Zc) (And.intro (fun u1 u2 u3 u4 u5 u6=>Zk ⟨u1,u2,u3,u4,u5,u6⟩) (And.intro (fun u1 u2 u3 u4 u5 u6 u7 u8 u9 u10 u11 u12=>Zl ⟨u1,u2,u3,u4,u5,u6⟩ ⟨u7,u8,u9,u10,u11,u12⟩) @hright)) ?_
    refine Cc ?_ ?_<;>intro hc<;>(try simp only[Za,ne_eq]at hc)
    ·rcases hc with h|⟨h,_⟩
     ·exact Bool.noConfusion (h.symm.trans hm)
     ·omega
    ·refine Wk (An @hpr @Zc) (And.intro (fun u1 u2 u3 u4 u5 u6=>Zk ⟨u1,u2,u3,u4,u5,u6⟩) (And.intro (fun u1 u2 u3 u4 u5 u6 u7 u8 u9 u10 u11 u12=>Zl ⟨u1,u2,u3,u4,u5,u6⟩ ⟨u7,u8,u9,u10,u11,u12⟩) @hright)) ?_
     refine Zb 1 (by omega) (by omega) (by refine Le.of (τ:=[]) (ν:=[]) (by kernel_rfl) ?_ ?_<;>((refine Lv (An @hpr @Zc) fun eE=>?_;first|exact Lw (@Box.out _ eE) trivial|refine Lw (@Box.out _ eE) ?_);try omega))
   ·have hpr:((i:Int) - 1).toNat=i - 1:=by omega
    have hc2:=hc2 (by omega)
    refine Wk (An @hpr @Zc) (And.intro (fun u1 u2 u3 u4 u5 u6=>Zk ⟨u1,u2,u3,u4,u5,u6⟩) (And.intro (fun u1 u2 u3 u4 u5 u6 u7 u8 u9 u10 u11 u12=>Zl ⟨u1,u2,u3,u4,u5,u6⟩ ⟨u7,u8,u9,u10,u11,u12⟩) @hright)) ?_
    refine Cc ?_ ?_<;>intro hc<;>(try simp only[Za,ne_eq]at hc)
    ·rcases hc with h|⟨_,h⟩
     ·exact Bool.noConfusion (h.symm.trans hm)
     ·exact absurd (show 0≤cmpL (l.getD (i - 1) default) (l.getD i default) from h) (by omega)
    ·refine Wk (An @hpr @Zc) (And.intro (fun u1 u2 u3 u4 u5 u6=>Zk ⟨u1,u2,u3,u4,u5,u6⟩) (And.intro (fun u1 u2 u3 u4 u5 u6 u7 u8 u9 u10 u11 u12=>Zl ⟨u1,u2,u3,u4,u5,u6⟩ ⟨u7,u8,u9,u10,u11,u12⟩) @hright)) ?_
     refine Zb (i+1) (by omega) (by omega) (by refine Le.of (τ:=[]) (ν:=[]) (by kernel_rfl) ?_ ?_<;>((refine Lv (An @hpr @Zc) fun eE=>?_;first|exact Lw (@Box.out _ eE) trivial|refine Lw (@Box.out _ eE) ?_);try omega))
  ·refine Wk (An @hpr @Zc) (And.intro (fun u1 u2 u3 u4 u5 u6=>Zk ⟨u1,u2,u3,u4,u5,u6⟩) (And.intro (fun u1 u2 u3 u4 u5 u6 u7 u8 u9 u10 u11 u12=>Zl ⟨u1,u2,u3,u4,u5,u6⟩ ⟨u7,u8,u9,u10,u11,u12⟩) @hright)) ?_
   first|exact Fn @Tryz.results112 (An @hpr @Zc) trivial|refine Fn @Tryz.results112 (An @hpr @Zc) ?_
theorem rightNo_c (l:List Lim) (hll:l.length≤9223372036854775807) (h:¬rightP l):ACall Tryz.prog 112 [] [lsD l] (B false) []:=by
 have hpr:True:=trivial
 have hright:True:=trivial
 refine Ac Tryz.func112 ?_
 refine Wk (An @hpr @Zc) (And.intro (fun u1 u2 u3 u4 u5 u6=>Zk ⟨u1,u2,u3,u4,u5,u6⟩) (And.intro (fun u1 u2 u3 u4 u5 u6 u7 u8 u9 u10 u11 u12=>Zl ⟨u1,u2,u3,u4,u5,u6⟩ ⟨u7,u8,u9,u10,u11,u12⟩) @hright)) ?_
 refine Cc ?_ ?_<;>intro hc<;>(try simp only[Za,ne_eq]at hc)
 ·refine Wk (An @hpr @Zc) (And.intro (fun u1 u2 u3 u4 u5 u6=>Zk ⟨u1,u2,u3,u4,u5,u6⟩) (And.intro (fun u1 u2 u3 u4 u5 u6 u7 u8 u9 u10 u11 u12=>Zl ⟨u1,u2,u3,u4,u5,u6⟩ ⟨u7,u8,u9,u10,u11,u12⟩) @hright)) ?_
  first|exact Fn @Tryz.results112 (An @hpr @Zc) trivial|refine Fn @Tryz.results112 (An @hpr @Zc) ?_
 ·refine Wk (An @hpr @Zc) (And.intro (fun u1 u2 u3 u4 u5 u6=>Zk ⟨u1,u2,u3,u4,u5,u6⟩) (And.intro (fun u1 u2 u3 u4 u5 u6 u7 u8 u9 u10 u11 u12=>Zl ⟨u1,u2,u3,u4,u5,u6⟩ ⟨u7,u8,u9,u10,u11,u12⟩) @hright)) ?_
  refine AWp.loop (fun i:Nat=>mkSt [(0,lsD l),(8,lsD l),(9,I l.length),(10,I i)] [] 0) (fun i=>i≤l.length∧∀j,j<i→mayL (l.getD j default)=true∧(0<j→cmpL (l.getD (j - 1) default) (l.getD j default)<0)) (fun i=>l.length - i) 0 ⟨Nat.zero_le _,fun j hj=>absurd hj (Nat.not_lt_zero _)⟩ (by refine Le.of (τ:=[]) (ν:=[]) (by kernel_rfl) ?_ ?_<;>((refine Lv (An @hpr @Zc) fun eE=>?_;first|exact Lw (@Box.out _ eE) trivial|refine Lw (@Box.out _ eE) ?_);try rfl)) fun i hi=>?_
  obtain ⟨hi,hj⟩:=hi
  refine Wk (An @hpr @Zc) (And.intro (fun u1 u2 u3 u4 u5 u6=>Zk ⟨u1,u2,u3,u4,u5,u6⟩) (And.intro (fun u1 u2 u3 u4 u5 u6 u7 u8 u9 u10 u11 u12=>Zl ⟨u1,u2,u3,u4,u5,u6⟩ ⟨u7,u8,u9,u10,u11,u12⟩) @hright)) ?_
  refine Cc ?_ ?_<;>intro hc<;>(try simp only[Za,ne_eq]at hc)
  ·have hil:i<l.length:=by omega
   by_cases hi0:i=0
   ·subst hi0
    refine Wk (An @hpr @Zc) (And.intro (fun u1 u2 u3 u4 u5 u6=>Zk ⟨u1,u2,u3,u4,u5,u6⟩) (And.intro (fun u1 u2 u3 u4 u5 u6 u7 u8 u9 u10 u11 u12=>Zl ⟨u1,u2,u3,u4,u5,u6⟩ ⟨u7,u8,u9,u10,u11,u12⟩) @hright)) ?_
    refine Cc ?_ ?_<;>intro hc<;>(try simp only[Za,ne_eq]at hc)
    ·refine Wk (An @hpr @Zc) (And.intro (fun u1 u2 u3 u4 u5 u6=>Zk ⟨u1,u2,u3,u4,u5,u6⟩) (And.intro (fun u1 u2 u3 u4 u5 u6 u7 u8 u9 u10 u11 u12=>Zl ⟨u1,u2,u3,u4,u5,u6⟩ ⟨u7,u8,u9,u10,u11,u12⟩) @hright)) ?_
     first|exact Fn @Tryz.results112 (An @hpr @Zc) trivial|refine Fn @Tryz.results112 (An @hpr @Zc) ?_
    ·have hm:mayL (l.getD 0 default)=true:=by
      have:=hc.1
      exact this
     refine Wk (An @hpr @Zc) (And.intro (fun u1 u2 u3 u4 u5 u6=>Zk ⟨u1,u2,u3,u4,u5,u6⟩) (And.intro (fun u1 u2 u3 u4 u5 u6 u7 u8 u9 u10 u11 u12=>Zl ⟨u1,u2,u3,u4,u5,u6⟩ ⟨u7,u8,u9,u10,u11,u12⟩) @hright)) ?_
     refine Zb 1 ⟨by omega,fun j hj2=>by obtain rfl:j=0:=by omega
                                         exact ⟨hm,fun x=>by omega⟩⟩ (by omega) (by refine Le.of (τ:=[]) (ν:=[]) (by kernel_rfl) ?_ ?_<;>((refine Lv (An @hpr @Zc) fun eE=>?_;first|exact Lw (@Box.out _ eE) trivial|refine Lw (@Box.out _ eE) ?_);try omega))
   ·have hpr:((i:Int) - 1).toNat=i - 1:=by omega
    refine Wk (An @hpr @Zc) (And.intro (fun u1 u2 u3 u4 u5 u6=>Zk ⟨u1,u2,u3,u4,u5,u6⟩) (And.intro (fun u1 u2 u3 u4 u5 u6 u7 u8 u9 u10 u11 u12=>Zl ⟨u1,u2,u3,u4,u5,u6⟩ ⟨u7,u8,u9,u10,u11,u12⟩) @hright)) ?_
    refine Cc ?_ ?_<;>intro hc<;>(try simp only[Za,ne_eq]at hc)
    ·refine Wk (An @hpr @Zc) (And.intro (fun u1 u2 u3 u4 u5 u6=>Zk ⟨u1,u2,u3,u4,u5,u6⟩) (And.intro (fun u1 u2 u3 u4 u5 u6 u7 u8 u9 u10 u11 u12=>Zl ⟨u1,u2,u3,u4,u5,u6⟩ ⟨u7,u8,u9,u10,u11,u12⟩) @hright)) ?_
     first|exact Fn @Tryz.results112 (An @hpr @Zc) trivial|refine Fn @Tryz.results112 (An @hpr @Zc) ?_
    ·have hm:mayL (l.getD i default)=true:=hc.1
     have hlt:cmpL (l.getD (i - 1) default) (l.getD i default)<0:=by
      rcases hc.2 with h|h
      ·omega
      ·exact Int.not_le.1 h
     refine Wk (An @hpr @Zc) (And.intro (fun u1 u2 u3 u4 u5 u6=>Zk ⟨u1,u2,u3,u4,u5,u6⟩) (And.intro (fun u1 u2 u3 u4 u5 u6 u7 u8 u9 u10 u11 u12=>Zl ⟨u1,u2,u3,u4,u5,u6⟩ ⟨u7,u8,u9,u10,u11,u12⟩) @hright)) ?_
     refine Zb (i+1) ⟨by omega,fun j hj2=>by
      rcases (show j<i∨j=i by omega) with h|rfl
      ·exact hj j h
      ·exact ⟨hm,fun _=>hlt⟩⟩ (by omega) (by refine Le.of (τ:=[]) (ν:=[]) (by kernel_rfl) ?_ ?_<;>((refine Lv (An @hpr @Zc) fun eE=>?_;first|exact Lw (@Box.out _ eE) trivial|refine Lw (@Box.out _ eE) ?_);try omega))
  ·obtain rfl:i=l.length:=by omega
   exact absurd ⟨by omega,hj⟩ h
abbrev resG (x:Lim) (b:Bool):D:=.t [.a (lC x),.c (.v (.x (.bool b)))]
def hit (x:Lim) (a s:ByteArray):Bool:=(x.acc.data.toList == a.data.toList) && (x.sym.data.toList == s.data.toList)
def findL (l:List Lim) (a s:ByteArray):Lim×Bool:=match l.find? (fun x=>hit x a s) with
 | some x=>(x,true)
 | none=>(default,false)
theorem find_step (l:List Lim) (a s:ByteArray) (i:Nat) (h:i<l.length):(l.drop i).find? (fun x=>hit x a s)=if hit (l.getD i default) a s=true then some (l.getD i default) else (l.drop (i+1)).find? (fun x=>hit x a s):=by
 have e:l.drop i=l.getD i default::l.drop (i+1):=by
  rw[List.getD_eq_getElem?_getD,List.getElem?_eq_getElem h];exact List.drop_eq_getElem_cons h
 rw[e,List.find?_cons]
 cases hit (l.getD i default) a s<;>rfl
theorem getYes_c (l:List Lim) (a s:ByteArray) (x:Lim) (b:Bool) (h:rightP l) (hf:findL l a s=(x,b)):ACall Tryz.prog 62 [] [lsD l,SD a,SD s] (resG x b) []:=by
 have hpr:True:=trivial
 have hright:=rightYes_c l h
 have hl:=h.1
 refine Ac Tryz.func62 ?_
 refine Wk (An @hpr @Zc) (And.intro (fun u1 u2 u3 u4 u5 u6=>Zk ⟨u1,u2,u3,u4,u5,u6⟩) (And.intro (fun u1 u2 u3 u4 u5 u6 u7 u8 u9 u10 u11 u12=>Zl ⟨u1,u2,u3,u4,u5,u6⟩ ⟨u7,u8,u9,u10,u11,u12⟩) @hright)) ?_
 refine Cc ?_ ?_<;>intro hc<;>(try simp only[Za,ne_eq]at hc)
 ·contradiction
 ·refine Wk (An @hpr @Zc) (And.intro (fun u1 u2 u3 u4 u5 u6=>Zk ⟨u1,u2,u3,u4,u5,u6⟩) (And.intro (fun u1 u2 u3 u4 u5 u6 u7 u8 u9 u10 u11 u12=>Zl ⟨u1,u2,u3,u4,u5,u6⟩ ⟨u7,u8,u9,u10,u11,u12⟩) @hright)) ?_
  refine AWp.loop (τ:=ren [(0,0)]) (fun i:Nat=>mkSt [(1,SD a),(2,SD s),(6,.p 0 0),(14,lsD l),(15,I l.length),(16,I i)] [(0,.loc (lC default))] 1) (fun i=>i≤l.length∧(l.drop i).find? (fun x=>hit x a s)=l.find? (fun x=>hit x a s)) (fun i=>l.length - i) 0 ⟨Nat.zero_le _,rfl⟩ (by refine Le.of (ν:=[]) (by kernel_rfl) ?_ ?_<;>((refine Lv (An @hpr @Zc) fun eE=>?_;first|exact Lw (@Box.out _ eE) trivial|refine Lw (@Box.out _ eE) ?_);try exact ⟨rfl,rfl,rfl,rfl,rfl,rfl⟩)) fun i hi=>?_
  obtain ⟨hi,hfi⟩:=hi
  refine Wk (An @hpr @Zc) (And.intro (fun u1 u2 u3 u4 u5 u6=>Zk ⟨u1,u2,u3,u4,u5,u6⟩) (And.intro (fun u1 u2 u3 u4 u5 u6 u7 u8 u9 u10 u11 u12=>Zl ⟨u1,u2,u3,u4,u5,u6⟩ ⟨u7,u8,u9,u10,u11,u12⟩) @hright)) ?_
  refine Cc ?_ ?_<;>intro hc<;>(try simp only[Za,ne_eq]at hc)
  ·have hil:i<l.length:=by omega
   rw[find_step l a s i hil]at hfi
   refine Wk (An @hpr @Zc) (And.intro (fun u1 u2 u3 u4 u5 u6=>Zk ⟨u1,u2,u3,u4,u5,u6⟩) (And.intro (fun u1 u2 u3 u4 u5 u6 u7 u8 u9 u10 u11 u12=>Zl ⟨u1,u2,u3,u4,u5,u6⟩ ⟨u7,u8,u9,u10,u11,u12⟩) @hright)) ?_
   refine Cc ?_ ?_<;>intro hc<;>(try simp only[Za,ne_eq]at hc)
   ·have hh:hit (l.getD i default) a s=true:=by rw[hit,Bool.and_eq_true,beq_iff_eq,beq_iff_eq];exact hc
    rw[if_pos hh]at hfi
    have hx:(l.getD i default,true)=(x,b):=by rw[←hf,findL,←hfi]
    cases hx
    refine Wk (An @hpr @Zc) (And.intro (fun u1 u2 u3 u4 u5 u6=>Zk ⟨u1,u2,u3,u4,u5,u6⟩) (And.intro (fun u1 u2 u3 u4 u5 u6 u7 u8 u9 u10 u11 u12=>Zl ⟨u1,u2,u3,u4,u5,u6⟩ ⟨u7,u8,u9,u10,u11,u12⟩) @hright)) ?_
    first|exact Fn @Tryz.results62 (An @hpr @Zc) trivial|refine Fn @Tryz.results62 (An @hpr @Zc) ?_
   ·have hh:¬hit (l.getD i default) a s=true:=by
     intro x
     rw[hit,Bool.and_eq_true,beq_iff_eq,beq_iff_eq]at x
     rcases hc with h|h
     ·exact h x.1
     ·exact h x.2
    rw[if_neg hh]at hfi
    refine Wk (An @hpr @Zc) (And.intro (fun u1 u2 u3 u4 u5 u6=>Zk ⟨u1,u2,u3,u4,u5,u6⟩) (And.intro (fun u1 u2 u3 u4 u5 u6 u7 u8 u9 u10 u11 u12=>Zl ⟨u1,u2,u3,u4,u5,u6⟩ ⟨u7,u8,u9,u10,u11,u12⟩) @hright)) ?_
    refine Zb (i+1) ⟨by omega,hfi⟩ (by omega) (by refine Le.of (τ:=[]) (ν:=[]) (by kernel_rfl) ?_ ?_<;>((refine Lv (An @hpr @Zc) fun eE=>?_;first|exact Lw (@Box.out _ eE) trivial|refine Lw (@Box.out _ eE) ?_);try omega))
  ·obtain rfl:i=l.length:=by omega
   rw[List.drop_length,List.find?_nil]at hfi
   have hx:((default:Lim),false)=(x,b):=by rw[←hf,findL,←hfi]
   cases hx
   refine Wk (An @hpr @Zc) (And.intro (fun u1 u2 u3 u4 u5 u6=>Zk ⟨u1,u2,u3,u4,u5,u6⟩) (And.intro (fun u1 u2 u3 u4 u5 u6 u7 u8 u9 u10 u11 u12=>Zl ⟨u1,u2,u3,u4,u5,u6⟩ ⟨u7,u8,u9,u10,u11,u12⟩) @hright)) ?_
   first|exact Fn @Tryz.results62 (An @hpr @Zc) trivial|refine Fn @Tryz.results62 (An @hpr @Zc) ?_
   exact ⟨rfl,rfl,rfl,rfl,rfl,rfl⟩
end NA
namespace NA
def rightN (n:Int):Bool:=decide (-4611686018427387904≤n) && decide (n≤4611686018427387904)
theorem rightN_spec {n:Int}:rightN n=true↔-4611686018427387904≤n∧n≤4611686018427387904:=by simp[rightN]
theorem rightN_no {n:Int}:rightN n=false↔¬(-4611686018427387904≤n∧n≤4611686018427387904):=by rw[←rightN_spec];simp
def qAN11:=PLift.up (An @wrap_u64 (An @and32 @shr32))
theorem right_c (n:Int):ACall Tryz.prog 110 [] [I n] (B (rightN n)) []:=by
 refine Ac Tryz.func110 ?_
 refine Wk qAN11.1 trivial ?_
 first|exact Fn @Tryz.results110 qAN11.1 trivial|refine Fn @Tryz.results110 qAN11.1 ?_
 rfl
def okN (n:Int):Prop:=-4611686018427387904≤n∧n≤4611686018427387904
open Classical in
noncomputable def addS (a b:Int):Int×Bool:=if okN a∧okN b∧okN (a+b) then (a+b,true) else (0,false)
abbrev numD (r:Int×Bool):D:=.t [.c (.v (vI r.1)),.c (.v (.x (.bool r.2)))]
theorem wrap_sum (a b:Int) (ha:okN a) (hb:okN b):rightN (IntKind.i64.wrap (a+b))=true↔okN (a+b):=by
 unfold okN at *
 by_cases c:a+b=9223372036854775808
 ·rw[c,show IntKind.i64.wrap 9223372036854775808=-9223372036854775808 by decide,rightN_spec]
  omega
 ·rw[Zn _ (by omega) (by omega),rightN_spec]
theorem add_c (a b:Int) (r:Int×Bool) (hr:addS a b=r) (h1:-9223372036854775808≤a∧a≤9223372036854775807):ACall Tryz.prog 64 [] [I a,I b] (numD r) []:=by
 refine Ac Tryz.func64 ?_
 refine Wk qAN11.1 @right_c ?_
 refine Cc ?_ ?_<;>intro hc<;>(try simp only[Za,ne_eq]at hc)
 ·refine Wk qAN11.1 @right_c ?_
  have e:r=(0,false):=by
   rw[←hr,addS,if_neg]
   rintro ⟨ha,hb,hs⟩
   have h2:=(wrap_sum a b ha hb).2 hs
   have ha':=rightN_spec.2 ha
   have hb':=rightN_spec.2 hb
   simp[ha',hb',h2]at hc
  subst e
  first|exact Fn @Tryz.results64 qAN11.1 trivial|refine Fn @Tryz.results64 qAN11.1 ?_
 ·obtain ⟨⟨ha,hb⟩,hs⟩:=hc
  have ha':=rightN_spec.1 ha
  have hb':=rightN_spec.1 hb
  have hs':=(wrap_sum a b ha' hb').1 hs
  have hs2:=hs'
  unfold okN at hs2
  refine Wk qAN11.1 @right_c ?_
  have e:r=(a+b,true):=by rw[←hr,addS,if_pos ⟨ha',hb',hs'⟩]
  subst e
  first|exact Fn @Tryz.results64 qAN11.1 trivial|refine Fn @Tryz.results64 qAN11.1 ?_
def absN (n:Int):Int:=if n<0 then -n else n
theorem size_c (n:Int) (h:-4611686018427387904≤n∧n≤4611686018427387904):ACall Tryz.prog 129 [] [I n] (.e (.c (.v (.x (.int .u64 (absN n)))))) []:=by
 refine Ac Tryz.func129 ?_
 refine Wk qAN11.1 @right_c ?_
 refine Cc ?_ ?_<;>intro hc<;>(try simp only[Za,ne_eq]at hc)
 ·refine Wk qAN11.1 @right_c ?_
  have e:absN n=0 - n:=by rw[absN,if_pos hc];omega
  rw[e]
  first|exact Fn @Tryz.results129 qAN11.1 trivial|refine Fn @Tryz.results129 qAN11.1 ?_
 ·refine Wk qAN11.1 @right_c ?_
  have e:absN n=n:=by rw[absN,if_neg hc]
  rw[e]
  first|exact Fn @Tryz.results129 qAN11.1 trivial|refine Fn @Tryz.results129 qAN11.1 ?_
theorem mul_parts (x0 x1 y0 y1 m:Int):(x1*m+x0)*(y1*m+y0)=(x1*y1)*(m*m)+(x1*y0+x0*y1)*m+x0*y0:=by
 simp only[Int.add_mul,Int.mul_add,Int.mul_assoc,Int.mul_comm,Int.mul_left_comm]
 omega
theorem mul_bd {a b A B:Int} (h1:0≤a) (h2:a≤A) (h3:0≤b) (h4:b≤B):0≤a*b∧a*b≤A*B :=
 ⟨Int.mul_nonneg h1 h3,Int.mul_le_mul h2 h4 h3 (by omega)⟩
theorem hi_eq (x y:Int) (hx0:0≤x) (hx1:x≤4611686018427387904) (hy0:0≤y) (hy1:y≤4611686018427387904) :
 x / 4294967296*(y / 4294967296)+(x / 4294967296*(y % 4294967296)+x % 4294967296*(y % 4294967296) / 4294967296) / 4294967296 +
  ((x / 4294967296*(y % 4294967296)+x % 4294967296*(y % 4294967296) / 4294967296) % 4294967296+x % 4294967296*(y / 4294967296)) / 4294967296=x*y / 18446744073709551616:=by
 have e:=mul_parts (x % 4294967296) (x / 4294967296) (y % 4294967296) (y / 4294967296) 4294967296
 have ex:x / 4294967296*4294967296+x % 4294967296=x:=by omega
 have ey:y / 4294967296*4294967296+y % 4294967296=y:=by omega
 rw[ex,ey]at e
 have b1:=mul_bd (a:=x % 4294967296) (b:=y % 4294967296) (A:=4294967295) (B:=4294967295) (by omega) (by omega) (by omega) (by omega)
 have b2:=mul_bd (a:=x / 4294967296) (b:=y % 4294967296) (A:=1073741824) (B:=4294967295) (by omega) (by omega) (by omega) (by omega)
 have b3:=mul_bd (a:=x % 4294967296) (b:=y / 4294967296) (A:=4294967295) (B:=1073741824) (by omega) (by omega) (by omega) (by omega)
 have b4:=mul_bd (a:=x / 4294967296) (b:=y / 4294967296) (A:=1073741824) (B:=1073741824) (by omega) (by omega) (by omega) (by omega)
 rw[e]
 generalize x / 4294967296*(y / 4294967296)=p at *
 generalize x / 4294967296*(y % 4294967296)=q at *
 generalize x % 4294967296*(y / 4294967296)=r at *
 generalize x % 4294967296*(y % 4294967296)=s at *
 omega
abbrev U (n:Int):D:=.e (.c (.v (.x (.int .u64 n))))
theorem shr32b (x:Int):x.fdiv (2 ^ min 32 IntKind.u64.bits)=x / 4294967296:=shr32 x
def qAN12:=PLift.up (An @wrap_u64 (An @and32 (An @shr32 @shr32b)))
theorem mul64_c (x y:Int) (hx0:0≤x) (hx1:x≤4611686018427387904) (hy0:0≤y) (hy1:y≤4611686018427387904) :
 ACall Tryz.prog 128 [] [U x,U y] (.t [.c (.v (.x (.int .u64 (x*y / 18446744073709551616)))),.c (.v (.x (.int .u64 (IntKind.u64.wrap (x*y)))))]) []:=by
 have b1:=mul_bd (a:=x % 4294967296) (b:=y % 4294967296) (A:=4294967295) (B:=4294967295) (by omega) (by omega) (by omega) (by omega)
 have b2:=mul_bd (a:=x / 4294967296) (b:=y % 4294967296) (A:=1073741824) (B:=4294967295) (by omega) (by omega) (by omega) (by omega)
 have b3:=mul_bd (a:=x % 4294967296) (b:=y / 4294967296) (A:=4294967295) (B:=1073741824) (by omega) (by omega) (by omega) (by omega)
 have b4:=mul_bd (a:=x / 4294967296) (b:=y / 4294967296) (A:=1073741824) (B:=1073741824) (by omega) (by omega) (by omega) (by omega)
 refine Ac Tryz.func128 ?_
 refine Wk qAN12.1 (An @right_c @size_c) ?_
 first|exact Fn @Tryz.results128 qAN12.1 trivial|refine Fn @Tryz.results128 qAN12.1 ?_
 rw[hi_eq x y hx0 hx1 hy0 hy1]
theorem wrapU (x:Int):IntKind.u64.wrap x=x % 18446744073709551616:=by
 simp only[IntKind.wrap,IntKind.bits,IntKind.signed]
 simp
end NA
namespace NA
open Classical in
noncomputable def mulS (a b:Int):Int×Bool:=if okN a∧okN b∧okN (a*b) then (a*b,true) else (0,false)
theorem absN_le {a:Int} (h:okN a):0≤absN a∧absN a≤4611686018427387904:=by
 unfold okN at h;unfold absN;split<;>omega
theorem absN_mul (a b:Int):a*b=if (a<0↔b<0) then absN a*absN b else -(absN a*absN b):=by
 unfold absN
 by_cases ha:a<0<;>by_cases hb:b<0<;>simp[ha,hb,Int.neg_mul,Int.mul_neg]
def qAN22:=PLift.up (An @right_c (An @size_c @mul64_c))
def qAN21:=PLift.up (An @wrapU (An @and32 @shr32))
theorem mul_c (a b:Int) (r:Int×Bool) (hr:mulS a b=r):ACall Tryz.prog 63 [] [I a,I b] (numD r) []:=by
 have hP:True:=trivial
 refine Ac Tryz.func63 ?_
 refine Wk (An @hP qAN21.1) qAN22.1 ?_
 refine Cc ?_ ?_<;>intro hc<;>(try simp only[Za,ne_eq]at hc)
 ·refine Wk (An @hP qAN21.1) qAN22.1 ?_
  have e:r=(0,false):=by
   rw[←hr,mulS,if_neg]
   rintro ⟨ha,hb,_⟩
   have ha':=rightN_spec.2 ha
   have hb':=rightN_spec.2 hb
   simp[ha',hb']at hc
  subst e
  first|exact Fn @Tryz.results63 (An @hP qAN21.1) trivial|refine Fn @Tryz.results63 (An @hP qAN21.1) ?_
 ·have ha:okN a:=rightN_spec.1 hc.1
  have hb:okN b:=rightN_spec.1 hc.2
  have ha2:=rightN_spec.1 hc.1
  have hb2:=rightN_spec.1 hc.2
  have ba:=absN_le ha
  have bb:=absN_le hb
  obtain ⟨P,hP⟩:∃P,absN a*absN b=P:=⟨_,rfl⟩
  have hbd:=mul_bd ba.1 ba.2 bb.1 bb.2
  rw[hP]at hbd
  have hm:=absN_mul a b
  rw[hP]at hm
  refine Wk (An @hP qAN21.1) qAN22.1 ?_
  refine Cc ?_ ?_<;>intro hc<;>(try simp only[Za,ne_eq]at hc)
  ·refine Wk (An @hP qAN21.1) qAN22.1 ?_
   have e:r=(0,false):=by
    rw[←hr,mulS,if_neg]
    rintro ⟨_,_,h3⟩
    rw[hm]at h3
    unfold okN at h3
    split at h3<;>omega
   subst e
   first|exact Fn @Tryz.results63 (An @hP qAN21.1) trivial|refine Fn @Tryz.results63 (An @hP qAN21.1) ?_
  ·have hlt:P≤4611686018427387904:=by omega
   refine Wk (An @hP qAN21.1) qAN22.1 ?_
   have e:r=(a*b,true):=by
    rw[←hr,mulS,if_pos]
    refine ⟨ha,hb,?_⟩
    rw[hm];unfold okN;split<;>omega
   refine Cc ?_ ?_<;>intro hc<;>(try simp only[Za,ne_eq]at hc)
   ·refine Wk (An @hP qAN21.1) qAN22.1 ?_
    have e2:a*b=0 - P % 18446744073709551616:=by
     rw[hm,if_neg]
     ·omega
     ·intro h;apply hc;rw[Bool.eq_iff_iff];simpa using h
    rw[e2]at e
    subst e
    first|exact Fn @Tryz.results63 (An @hP qAN21.1) trivial|refine Fn @Tryz.results63 (An @hP qAN21.1) ?_
   ·refine Wk (An @hP qAN21.1) qAN22.1 ?_
    have e2:a*b=P % 18446744073709551616:=by
     rw[hm,if_pos]
     ·omega
     ·have:=hc;rw[Bool.eq_iff_iff]at this;simpa using this
    rw[e2]at e
    subst e
    first|exact Fn @Tryz.results63 (An @hP qAN21.1) trivial|refine Fn @Tryz.results63 (An @hP qAN21.1) ?_
end NA
namespace NA
structure Ord where
 id:ByteArray
 acc:ByteArray
 sym:ByteArray
 buy:Bool
 qty:Int
 price:Int
 done:Int
 op:Bool
abbrev oC (o:Ord):List C:=[.v (.x (.string o.id)),.v (.x (.string o.acc)),.v (.x (.string o.sym)),.v (.x (.bool o.buy)),.v (vI o.qty),.v (vI o.price),.v (vI o.done),.v (.x (.bool o.op))]
abbrev oD (o:Ord):D:=.e (.a (oC o))
abbrev wD (wl ws:Int):D:=.e (.a [.v (vI wl),.v (vI ws)])
noncomputable def whyF (x:Lim) (b:Bool) (o:Ord) (wl ws:Int):Int :=
 if b=false then 1 else
 if x.qty<o.qty then 2 else
 if (mulS o.qty o.price).2=false∨x.value<(mulS o.qty o.price).1 then 3 else
 if o.buy=true then (if (addS wl o.qty).2=false∨x.long<(addS wl o.qty).1 then 4 else 0)
 else (if (addS ws o.qty).2=false∨x.short<(addS ws o.qty).1 then 5 else 0)
def qAM31:=PLift.up (An @mul_c @add_c)
theorem why_c (l:List Lim) (o:Ord) (wl ws:Int) (x:Lim) (b:Bool) (hget:ACall Tryz.prog 62 [] [lsD l,SD o.acc,SD o.sym] (resG x b) []) (hwl:-9223372036854775808≤wl∧wl≤9223372036854775807) (hws:-9223372036854775808≤ws∧ws≤9223372036854775807) :
 ACall Tryz.prog 22 [] [lsD l,oD o,wD wl ws] (I (whyF x b o wl ws)) []:=by
 obtain ⟨id,acc,sym,buy,qty,price,dn,op⟩:=o
 dsimp only at hget
 obtain ⟨⟨mv,mb⟩,hm⟩:∃r,mulS qty price=r:=⟨_,rfl⟩
 cases b with
 | false =>
  have ha:True:=trivial
  refine Ac Tryz.func22 ?_
  refine Wk @Zc (An @hget qAM31.1) ?_
  refine Cc ?_ ?_<;>intro hc<;>(try simp only[Za,ne_eq]at hc)
  ·refine Wk @Zc (An @hget qAM31.1) ?_
   first|exact Fn @Tryz.results22 @Zc trivial|refine Fn @Tryz.results22 @Zc ?_
   rw[whyF,if_pos rfl]
  ·contradiction
 | true =>
  cases buy with
  | true =>
   obtain ⟨⟨av,ab⟩,ha⟩:∃r,addS wl qty=r:=⟨_,rfl⟩
   have hwr:=hwl
   have hF:∀r,r=(if x.qty<qty then 2 else if mb=false∨x.value<mv then 3 else if ab=false∨x.long<av then 4 else 0)→whyF x true ⟨id,acc,sym,true,qty,price,dn,op⟩ wl ws=r:=fun r h=>by rw[h,whyF,if_neg (by decide)];dsimp only;rw[hm,ha];rfl
   refine Ac Tryz.func22 ?_
   refine Wk @Zc (An @hget qAM31.1) ?_
   refine Cc ?_ ?_<;>intro hc<;>(try simp only[Za,ne_eq]at hc)
   ·contradiction
   ·refine Wk @Zc (An @hget qAM31.1) ?_
    refine Cc ?_ ?_<;>intro hc<;>(try simp only[Za,ne_eq]at hc)
    ·refine Wk @Zc (An @hget qAM31.1) ?_
     first|exact Fn @Tryz.results22 @Zc trivial|refine Fn @Tryz.results22 @Zc ?_
     exact hF _ (by rw[if_pos hc])
    ·have h1:=hc
     refine Wk @Zc (An @hget qAM31.1) ?_
     refine Cc ?_ ?_<;>intro hc<;>(try simp only[Za,ne_eq]at hc)
     ·refine Wk @Zc (An @hget qAM31.1) ?_
      first|exact Fn @Tryz.results22 @Zc trivial|refine Fn @Tryz.results22 @Zc ?_
      exact hF _ (by rw[if_neg h1,if_pos hc])
     ·have h2:¬(mb=false∨x.value<mv):=by rintro (h|h)<;>simp_all
      refine Wk @Zc (An @hget qAM31.1) ?_
      refine Cc ?_ ?_<;>intro hc<;>(try simp only[Za,ne_eq]at hc)
      ·refine Wk @Zc (An @hget qAM31.1) ?_
       refine Cc ?_ ?_<;>intro hc<;>(try simp only[Za,ne_eq]at hc)
       ·refine Wk @Zc (An @hget qAM31.1) ?_
        first|exact Fn @Tryz.results22 @Zc trivial|refine Fn @Tryz.results22 @Zc ?_
        exact hF _ (by rw[if_neg h1,if_neg h2,if_pos hc])
       ·have h3:¬(ab=false∨x.long<av):=by rintro (h|h)<;>simp_all
        refine Wk @Zc (An @hget qAM31.1) ?_
        first|exact Fn @Tryz.results22 @Zc trivial|refine Fn @Tryz.results22 @Zc ?_
        exact hF _ (by rw[if_neg h1,if_neg h2,if_neg h3])
      ·contradiction
  | false =>
   obtain ⟨⟨av,ab⟩,ha⟩:∃r,addS ws qty=r:=⟨_,rfl⟩
   have hwr:=hws
   have hF:∀r,r=(if x.qty<qty then 2 else if mb=false∨x.value<mv then 3 else if ab=false∨x.short<av then 5 else 0)→whyF x true ⟨id,acc,sym,false,qty,price,dn,op⟩ wl ws=r:=fun r h=>by rw[h,whyF,if_neg (by decide)];dsimp only;rw[hm,ha];rfl
   refine Ac Tryz.func22 ?_
   refine Wk @Zc (An @hget qAM31.1) ?_
   refine Cc ?_ ?_<;>intro hc<;>(try simp only[Za,ne_eq]at hc)
   ·contradiction
   ·refine Wk @Zc (An @hget qAM31.1) ?_
    refine Cc ?_ ?_<;>intro hc<;>(try simp only[Za,ne_eq]at hc)
    ·refine Wk @Zc (An @hget qAM31.1) ?_
     first|exact Fn @Tryz.results22 @Zc trivial|refine Fn @Tryz.results22 @Zc ?_
     exact hF _ (by rw[if_pos hc])
    ·have h1:=hc
     refine Wk @Zc (An @hget qAM31.1) ?_
     refine Cc ?_ ?_<;>intro hc<;>(try simp only[Za,ne_eq]at hc)
     ·refine Wk @Zc (An @hget qAM31.1) ?_
      first|exact Fn @Tryz.results22 @Zc trivial|refine Fn @Tryz.results22 @Zc ?_
      exact hF _ (by rw[if_neg h1,if_pos hc])
     ·have h2:¬(mb=false∨x.value<mv):=by rintro (h|h)<;>simp_all
      refine Wk @Zc (An @hget qAM31.1) ?_
      refine Cc ?_ ?_<;>intro hc<;>(try simp only[Za,ne_eq]at hc)
      ·contradiction
      ·refine Wk @Zc (An @hget qAM31.1) ?_
       refine Cc ?_ ?_<;>intro hc<;>(try simp only[Za,ne_eq]at hc)
       ·refine Wk @Zc (An @hget qAM31.1) ?_
        first|exact Fn @Tryz.results22 @Zc trivial|refine Fn @Tryz.results22 @Zc ?_
        exact hF _ (by rw[if_neg h1,if_neg h2,if_pos hc])
       ·have h3:¬(ab=false∨x.short<av):=by rintro (h|h)<;>simp_all
        refine Wk @Zc (An @hget qAM31.1) ?_
        first|exact Fn @Tryz.results22 @Zc trivial|refine Fn @Tryz.results22 @Zc ?_
        exact hF _ (by rw[if_neg h1,if_neg h2,if_neg h3])
end NA
namespace NA
end NA
namespace NA
def posL (l:List Lim) (x:Lim):Nat:=(l.takeWhile fun y=>decide (cmpL y x<0)).length
theorem posL_le (l:List Lim) (x:Lim):posL l x≤l.length:=by
 unfold posL
 exact (List.takeWhile_sublist _).length_le
theorem posL_lt (l:List Lim) (x:Lim):∀j,j<posL l x→cmpL (l.getD j default) x<0:=by
 induction l with
 | nil=>intro j hj;exact absurd hj (Nat.not_lt_zero _)
 | cons y l ih =>
  intro j hj
  unfold posL at hj
  rw[List.takeWhile_cons]at hj
  by_cases h:cmpL y x<0
  ·rw[if_pos (by simpa using h),List.length_cons]at hj
   cases j with
   | zero=>simpa using h
   | succ j=>simpa using ih j (by unfold posL;omega)
  ·rw[if_neg (by simpa using h)]at hj
   exact absurd hj (Nat.not_lt_zero _)
theorem posL_at (l:List Lim) (x:Lim) (h:posL l x<l.length):0≤cmpL (l.getD (posL l x) default) x:=by
 induction l with
 | nil=>exact absurd h (Nat.not_lt_zero _)
 | cons y l ih =>
  by_cases hy:cmpL y x<0
  ·have e:posL (y::l) x=posL l x+1:=by
    unfold posL;rw[List.takeWhile_cons,if_pos (by simpa using hy),List.length_cons]
   rw[e]at h ⊢
   simpa using ih (by simpa using h)
  ·have e:posL (y::l) x=0:=by
    unfold posL;rw[List.takeWhile_cons,if_neg (by simpa using hy)];rfl
   rw[e]
   simpa using hy
theorem sorted_of {l:List Lim} (h:rightP l):∀i j,i<j→j<l.length→cmpL (l.getD i default) (l.getD j default)<0:=by
 intro i j hij hj
 induction j with
 | zero=>omega
 | succ j ih =>
  have h1:=(h.2 (j+1) hj).2 (by omega)
  rw[Nat.add_sub_cancel]at h1
  rcases Nat.lt_or_ge i j with h2|h2
  ·exact cmpL_trans (ih h2 (by omega)) h1
  ·obtain rfl:i=j:=by omega
   exact h1
theorem cmpL_sameR {a b c:Lim} (h:sameN b c):cmpL a b=cmpL a c:=by unfold cmpL;rw[h.1,h.2]
theorem cmpL_sameL {a b c:Lim} (h:sameN a b):cmpL a c=cmpL b c:=by unfold cmpL;rw[h.1,h.2]
theorem posL_ge {l:List Lim} (h:rightP l) (x:Lim):∀j,posL l x≤j→j<l.length→0≤cmpL (l.getD j default) x:=by
 intro j hj hl
 have h0:=posL_at l x (by omega)
 rcases Nat.lt_or_eq_of_le hj with h1|h1
 ·have h2:=sorted_of h _ _ h1 hl
  rcases Int.lt_or_le (cmpL (l.getD j default) x) 0 with h3|h3
  ·have:=cmpL_trans h2 h3
   omega
  ·exact h3
 ·rw[←h1];exact h0
def foundL (l:List Lim) (x:Lim):Bool:=decide (posL l x<l.length) && decide (cmpL (l.getD (posL l x) default) x=0)
open Classical in
noncomputable def setL (l:List Lim) (x:Lim):List Lim×Int :=
 if ¬(rightP l∧mayL x=true) then (l,1) else
 if foundL l x=true then (l.set (posL l x) x,0) else
 if l.length=32 then (l,5) else (l.take (posL l x)++x::l.drop (posL l x),0)
theorem setL_bad {l:List Lim} {x:Lim} (h:¬(rightP l∧mayL x=true)):setL l x=(l,1):=by unfold setL;rw[if_pos h]
theorem setL_found {l:List Lim} {x:Lim} (h:rightP l) (hx:mayL x=true) (hf:foundL l x=true):setL l x=(l.set (posL l x) x,0):=by unfold setL;rw[if_neg (fun n=>n ⟨h,hx⟩),if_pos hf]
theorem setL_full {l:List Lim} {x:Lim} (h:rightP l) (hx:mayL x=true) (hf:¬foundL l x=true) (hl:l.length=32):setL l x=(l,5):=by unfold setL;rw[if_neg (fun n=>n ⟨h,hx⟩),if_neg hf,if_pos hl]
theorem setL_ins {l:List Lim} {x:Lim} (h:rightP l) (hx:mayL x=true) (hf:¬foundL l x=true) (hl:l.length≠32):setL l x=(l.take (posL l x)++x::l.drop (posL l x),0):=by unfold setL;rw[if_neg (fun n=>n ⟨h,hx⟩),if_neg hf,if_neg hl]
theorem foundL_spec {l:List Lim} {x:Lim}:foundL l x=true↔posL l x<l.length∧sameN (l.getD (posL l x) default) x:=by
 unfold foundL
 rw[Bool.and_eq_true,decide_eq_true_eq,decide_eq_true_eq,cmpL_eq]
theorem getD_set {l:List Lim} {n:Nat} {x:Lim} (j:Nat) (hn:n<l.length):(l.set n x).getD j default=if j=n then x else l.getD j default:=by
 simp only[List.getD_eq_getElem?_getD,List.getElem?_set]
 split
 ·rename_i h;subst h;rw[if_pos rfl];simp[hn]
 ·rename_i h;rw[if_neg (fun e=>h e.symm)]
theorem getD_ins {l:List Lim} {n:Nat} {x:Lim} (j:Nat) (hn:n≤l.length):(l.take n++x::l.drop n).getD j default=if j<n then l.getD j default else if j=n then x else l.getD (j - 1) default:=by
 have ht:(l.take n).length=n:=by simp;omega
 simp only[List.getD_eq_getElem?_getD]
 by_cases h1:j<n
 ·rw[List.getElem?_append_left (by omega),List.getElem?_take,if_pos h1,if_pos h1]
 ·rw[List.getElem?_append_right (by omega),ht,if_neg h1]
  by_cases h2:j=n
  ·subst h2;simp
  ·rw[if_neg h2,show j - n=(j - 1 - n)+1 by omega,List.getElem?_cons_succ,List.getElem?_drop,show n+(j - 1 - n)=j - 1 by omega]
theorem right_set {l:List Lim} {x:Lim} (h:rightP l) (hx:mayL x=true) (hf:foundL l x=true):rightP (l.set (posL l x) x):=by
 obtain ⟨hlt,hs⟩:=foundL_spec.1 hf
 refine ⟨by simpa using h.1,fun i hi=>?_⟩
 have hi':i<l.length:=by simpa using hi
 have hi2:=h.2 i hi'
 rw[getD_set i hlt,getD_set (i - 1) hlt]
 constructor
 ·split
  ·exact hx
  ·exact hi2.1
 ·intro h0
  have h3:=hi2.2 h0
  by_cases e1:i=posL l x
  ·rw[if_pos e1,if_neg (by omega),←cmpL_sameR hs,←e1];exact h3
  ·rw[if_neg e1]
   split
   ·rename_i e2
    rw[←cmpL_sameL hs,←e2];exact h3
   ·exact h3
theorem right_ins {l:List Lim} {x:Lim} (h:rightP l) (hx:mayL x=true) (hf:¬foundL l x=true) (hl:l.length≠32):rightP (l.take (posL l x)++x::l.drop (posL l x)):=by
 have hle:=posL_le l x
 have hlen:(l.take (posL l x)++x::l.drop (posL l x)).length=l.length+1:=by simp;omega
 refine ⟨by have:=h.1;omega,fun i hi=>?_⟩
 rw[hlen]at hi
 rw[getD_ins i hle,getD_ins (i - 1) hle]
 have hat:posL l x<l.length→0<cmpL (l.getD (posL l x) default) x:=fun hp=>by
  have h0:=posL_at l x hp
  have:cmpL (l.getD (posL l x) default) x≠0:=fun e=>hf (foundL_spec.2 ⟨hp,cmpL_eq.1 e⟩)
  omega
 constructor
 ·split
  ·exact (h.2 i (by omega)).1
  ·split
   ·exact hx
   ·exact (h.2 (i - 1) (by omega)).1
 ·intro h0
  by_cases e1:i<posL l x
  ·rw[if_pos e1,if_pos (by omega)];exact (h.2 i (by omega)).2 h0
  ·rw[if_neg e1]
   by_cases e2:i=posL l x
   ·rw[if_pos e2,if_pos (by omega)]
    exact posL_lt l x _ (by omega)
   ·rw[if_neg e2]
    by_cases e3:i - 1=posL l x
    ·rw[if_neg (by omega),if_pos e3,e3]
     have:=hat (by omega)
     have:=cmpL_swap x (l.getD (posL l x) default)
     omega
    ·rw[if_neg (by omega),if_neg e3]
     exact (h.2 (i - 1) (by omega)).2 (by omega)
end NA
structure Ven where
 bk:Bk
 sent:List Ord
 last:Int
 gap:Bool
instance :Inhabited Ven:=⟨⟨default,[],0,false⟩⟩
structure Gat where
 vens:List Ven
 lims:List NA.Lim
 kill:Bool
 now:Int
 pat:Int
abbrev vnV (v:Ven):List V:=[NO.osV v.bk.ords,fsV v.bk.fills,ssV v.bk.ids,vI v.bk.clock,vI v.bk.bad,NO.osV v.sent,vI v.last,vB v.gap]
abbrev vnC (v:Ven):List C:=[.v (NO.osV v.bk.ords),.v (fsV v.bk.fills),.v (ssV v.bk.ids),.v (vI v.bk.clock),.v (vI v.bk.bad),.v (NO.osV v.sent),.v (vI v.last),.v (vB v.gap)]
abbrev vnD (v:Ven):D:=.e (.a (vnC v))
abbrev vR (l:List Ven):List (List V):=l.map fun v=>[NO.osV v.bk.ords,fsV v.bk.fills,ssV v.bk.ids,vI v.bk.clock,vI v.bk.bad,NO.osV v.sent,vI v.last,vB v.gap]
theorem getD_vR (l:List Ven) (i:Nat) (d:List V) (h:i<l.length):(l.map fun v=>[NO.osV v.bk.ords,fsV v.bk.fills,ssV v.bk.ids,vI v.bk.clock,vI v.bk.bad,NO.osV v.sent,vI v.last,vB v.gap]).getD i d=vnV (l.getD i default):=by
 simp[List.getD_eq_getElem?_getD,h]
theorem Yd {l:List Ven} {i:Nat} (h:i<l.length):l.getD i default∈l:=by
 rw[List.getD_eq_getElem?_getD,List.getElem?_eq_getElem h];exact List.getElem_mem h
abbrev gtC (g:Gat):List C:=[.v (.s 8 (vR g.vens)),.v (.s 6 (NA.lR g.lims)),.v (vB g.kill),.v (vI g.now),.v (vI g.pat)]
abbrev gtD (g:Gat):D:=.e (.a (gtC g))
def timeP (n:Int):Prop:=0≤n∧n≤4611686018427387904
structure venP (v:Ven) (now:Int):Prop where
 bk:bkP v.bk
 sent:NO.rightB v.sent=true
 room:v.bk.ords.length+v.sent.length≤64
 last:0≤v.last∧v.last≤now
 op:∀o,o∈v.sent→o.op=true∧v.bk.ords.any (fun x=>eqB x.id o.id)=false
structure gatP (g:Gat):Prop where
 n:1≤g.vens.length∧g.vens.length≤4
 lims:NA.rightP g.lims
 now:timeP g.now
 pat:timeP g.pat
 vens:∀v,v∈g.vens→venP v g.now
def qGA1:=PLift.up (An @Z3 (An @Zh @NO.Zf))
theorem isTime_c (n:Int) (h:timeP n):ACall Tryz.prog 65 [] [I n] (B true) []:=by
 have hb1:True:=trivial
 have hb2:True:=trivial
 have hb3:True:=trivial
 have hb4:True:=trivial
 have hdo:True:=trivial
 unfold timeP at h
 refine Ac Tryz.func65 ?_
 refine Wk (An @hb1 (An @hb2 (An @hb3 (An @hb4 qGA1.1)))) @hdo ?_
 first|exact Fn @Tryz.results65 (An @hb1 (An @hb2 (An @hb3 (An @hb4 qGA1.1)))) trivial|refine Fn @Tryz.results65 (An @hb1 (An @hb2 (An @hb3 (An @hb4 qGA1.1)))) ?_
 simp;omega
theorem lets_c (s:Int):ACall Tryz.prog 123 [] [I s,B true] (B (decide (s=0))) []:=by
 have hb1:True:=trivial
 have hb2:True:=trivial
 have hb3:True:=trivial
 have hb4:True:=trivial
 have hdo:True:=trivial
 refine Ac Tryz.func123 ?_
 refine Wk (An @hb1 (An @hb2 (An @hb3 (An @hb4 qGA1.1)))) @hdo ?_
 first|exact Fn @Tryz.results123 (An @hb1 (An @hb2 (An @hb3 (An @hb4 qGA1.1)))) trivial|refine Fn @Tryz.results123 (An @hb1 (An @hb2 (An @hb3 (An @hb4 qGA1.1)))) ?_
 rfl
namespace NS
structure Msg where
 kind:Int
 seq:Int
 time:Int
 copy:Bool
 a:Int
 b:Int
 gap:Bool
 text:ByteArray
 id:ByteArray
 ref:ByteArray
 order:ByteArray
 account:ByteArray
 symbol:ByteArray
 ekind:Int
 buy:Bool
 qty:Int
 price:Int
 etime:Int
def zM:Msg:=⟨0,0,0,false,0,0,false,⟨#[]⟩,⟨#[]⟩,⟨#[]⟩,⟨#[]⟩,⟨#[]⟩,⟨#[]⟩,0,false,0,0,0⟩
instance :Inhabited Msg:=⟨zM⟩
abbrev vB (b:Bool):V:=.x (.bool b)
abbrev vS (b:ByteArray):V:=.x (.string b)
def whenB (n:Int):Bool:=decide (0≤n) && decide (n≤4611686018427387904)
end NS
namespace NS
def smallB (n:Int):Bool:=decide (0≤n) && decide (n≤1099511627776)
theorem small_c (n:Int):ACall Tryz.prog 57 [] [I n] (B (smallB n)) []:=by
 have hch:True:=trivial
 refine Ac Tryz.func57 ?_
 refine Wk @hch trivial ?_
 first|exact Fn @Tryz.results57 @hch trivial|refine Fn @Tryz.results57 @hch ?_
 rfl
theorem mwhen_c (n:Int):ACall Tryz.prog 58 [] [I n] (B (whenB n)) []:=by
 have hch:True:=trivial
 refine Ac Tryz.func58 ?_
 refine Wk @hch trivial ?_
 first|exact Fn @Tryz.results58 @hch trivial|refine Fn @Tryz.results58 @hch ?_
 rfl
def ixB (s:ByteArray):Int:=Lib.indexByte s.data.toList 1
theorem ix_x (s:ByteArray):XCall Tryz.prog 282 [] [.e (.c (.v (.x (.string s)))),.e (.c (.v (.x (.int .u8 1))))] (I (ixB s)) []:=by
 intro own0 w ρ vs hm ha
 match vs,ha with
 | [a,b],⟨h1,h2,_⟩ =>
  obtain ⟨rfl,_⟩:=rep_x h1
  obtain ⟨rfl,_⟩:=rep_x h2
  refine ⟨.int .i64 (ixB s),ρ,?_,Sub.refl _,rep_x_mk rfl,hm⟩
  show (callFunc 282 #[.string s,.int .u8 1]).run Tryz.prog w=_
  rw[run_callFunc_extern Tryz.func282 (by kernel_rfl) (by kernel_rfl) (by kernel_rfl) (e:=Extern.BytealgIndexByte.indexByte) (by kernel_rfl),Lib.run_indexByteString]
  rfl
theorem ix45_c (s:ByteArray):ACall Tryz.prog 247 [] [.e (.c (.v (.x (.string s)))),.e (.c (.v (.x (.int .u8 1))))] (I (ixB s)) []:=by
 have hch:True:=trivial
 have hx:=ix_x s
 refine Ac Tryz.func247 ?_
 refine Wk @hch @hx ?_
 first|exact Fn @Tryz.results247 @hch trivial|refine Fn @Tryz.results247 @hch ?_
theorem ix41_c (s:ByteArray):ACall Tryz.prog 201 [] [.e (.c (.v (.x (.string s)))),.e (.c (.v (.x (.int .u8 1))))] (I (ixB s)) []:=by
 have hch:True:=trivial
 have hx:=ix45_c s
 refine Ac Tryz.func201 ?_
 refine Wk @hch @hx ?_
 first|exact Fn @Tryz.results201 @hch trivial|refine Fn @Tryz.results201 @hch ?_
def saysB (s:ByteArray):Bool:=decide ((s.size:Int)≤64) && decide (ixB s<0)
theorem says_c (s:ByteArray):ACall Tryz.prog 287 [] [.e (.c (.v (.x (.string s))))] (B (saysB s)) []:=by
 have hch:True:=trivial
 have hx:=ix41_c s
 refine Ac Tryz.func287 ?_
 refine Wk @hch @hx ?_
 first|exact Fn @Tryz.results287 @hch trivial|refine Fn @Tryz.results287 @hch ?_
 rfl
def okB (c:Int):Bool:=decide (65≤c) && decide (c≤90) || decide (97≤c) && decide (c≤122) || decide (48≤c) && decide (c≤57)
def nameB (s:ByteArray):Bool:=decide (1≤s.size) && decide (s.size≤16) && (List.range s.size).all fun i=>okB (strAt s i).toNat
theorem name_c (s:ByteArray):ACall Tryz.prog 56 [] [.e (.c (.v (.x (.string s))))] (B (nameB s)) []:=by
 have hx:True:=trivial
 obtain ⟨r,hr⟩:∃r,nameB s=r:=⟨_,rfl⟩
 rw[hr]
 refine Ac Tryz.func56 ?_
 have hch:True:=trivial
 refine Wk @hch @hx ?_
 refine Cc ?_ ?_<;>intro hc<;>(try simp only[Za,ne_eq]at hc)
 ·have e:r=false:=by
   rw[←hr];unfold nameB
   rw[Bool.and_eq_false_iff,Bool.and_eq_false_iff,decide_eq_false_iff_not,decide_eq_false_iff_not]
   rcases hc with h|h
   ·exact .inl (.inl (by omega))
   ·exact .inl (.inr (by omega))
  subst e
  refine Wk @hch @hx ?_
  first|exact Fn @Tryz.results56 @hch trivial|refine Fn @Tryz.results56 @hch ?_
 ·have hb:((List.range s.size).all fun i=>okB (strAt s i).toNat)=r:=by
   rw[←hr];unfold nameB
   rw[decide_eq_true (by omega),decide_eq_true (by omega)];rfl
  refine Wk @hch @hx ?_
  refine AWp.loop (τ:=ren []) (fun k:Nat=>mkSt [(0,.e (.c (.v (.x (.string s))))),(14,I s.size),(15,I k)] [] 0)
   (fun k=>k≤s.size∧∀i,i<k→okB (strAt s i).toNat=true) (fun k=>s.size - k) 0 ⟨Nat.zero_le _,fun i hi=>by omega⟩ (by refine Le.of (τ:=[]) (ν:=[]) (by kernel_rfl) ?_ ?_<;>((refine Lv @hch fun eE=>?_;first|exact Lw (@Box.out _ eE) trivial|refine Lw (@Box.out _ eE) ?_);try omega)) fun k hs=>?_
  obtain ⟨hk,hi⟩:=hs
  by_cases hks:k<s.size
  ·obtain ⟨x,hx⟩:∃x:Nat,(strAt s k).toNat=x:=⟨_,rfl⟩
   have hch:=hx
   have hx':=trivial
   refine Wk @hch @hx ?_
   refine Cc ?_ ?_<;>intro hc<;>(try simp only[Za,ne_eq]at hc)
   ·refine Wk @hch @hx ?_
    refine Cc ?_ ?_<;>intro hc<;>(try simp only[Za,ne_eq]at hc)
    ·have e:r=false:=by
      rw[←hb,Bool.eq_false_iff]
      intro h
      have:=List.all_eq_true.1 h k (List.mem_range.2 hks)
      rw[hx]at this
      simp only[okB,Bool.or_eq_true,Bool.and_eq_true,decide_eq_true_eq]at this
      omega
     subst e
     refine Wk @hch @hx ?_
     first|exact Fn @Tryz.results56 @hch trivial|refine Fn @Tryz.results56 @hch ?_
    ·refine Wk @hch @hx ?_
     refine Zb (τ:=ren []) (ν:=[]) (k+1) ⟨hks,?_⟩ (by omega) ?_
     ·intro i h
      rcases Nat.lt_or_eq_of_le (Nat.le_of_lt_succ h) with h|rfl
      ·exact hi i h
      ·rw[hx]
       simp only[okB,Bool.or_eq_true,Bool.and_eq_true,decide_eq_true_eq]
       omega
     ·refine Le.of (by kernel_rfl) ?_ ?_<;>((refine Lv @hch fun eE=>?_;first|exact Lw (@Box.out _ eE) trivial|refine Lw (@Box.out _ eE) ?_);try omega)
   ·omega
  ·obtain rfl:k=s.size:=by omega
   have e:r=true:=by
    rw[←hb,List.all_eq_true]
    exact fun i h=>hi i (List.mem_range.1 h)
   subst e
   refine Wk @hch @hx ?_
   refine Cc ?_ ?_<;>intro hc<;>(try simp only[Za,ne_eq]at hc)
   ·omega
   ·refine Wk @hch @hx ?_
    first|exact Fn @Tryz.results56 @hch trivial|refine Fn @Tryz.results56 @hch ?_
def ekB (m:Msg):Bool:=if m.ekind=4∨m.ekind=7∨m.ekind=8 then nameB m.ref else decide (m.ekind=1∨m.ekind=2∨m.ekind=3∨m.ekind=5∨m.ekind=6) && (m.ref.data.toList == (⟨#[]⟩:ByteArray).data.toList)
def exB (m:Msg):Bool:=nameB m.id && nameB m.order && nameB m.account && nameB m.symbol && ekB m && (smallB m.qty && smallB m.price && whenB m.etime)
end NS
namespace NS
theorem ex_c (m:Msg) (r:Bool) (hr:exB m=r):ACall Tryz.prog 20 [] [.e (.a [.v (vS m.id),.v (vS m.ref),.v (vS m.order),.v (vS m.account),.v (vS m.symbol),.v (vI m.ekind),.v (vB m.buy),.v (vI m.qty),.v (vI m.price),.v (vI m.etime)])] (B r) []:=by
 have hch:True:=trivial
 refine Ac Tryz.func20 ?_
 iterate 14 (all_goals (try (refine Wk @hch (An @name_c (An @small_c @mwhen_c)) ?_));all_goals (try (refine Cc ?_ ?_<;>intro hc<;>(try simp only[Za,ne_eq]at hc)));all_goals (try (exfalso;omega)))
 all_goals (first|exact Fn @Tryz.results20 @hch trivial|refine Fn @Tryz.results20 @hch ?_)
 all_goals first|(subst hr;unfold exB ekB;simp_all;done)|(subst hr;unfold exB;rcases hc with ((h|h)|h)|h<;>simp[h])
end NS
structure Ask where
 kind:Int
 ven:Int
 o:Ord
 id:ByteArray
 x:Exe
 now:Int
 on:Bool
 l:NA.Lim
abbrev aC (a:Ask):List C:=[.v (vI a.kind),.v (vI a.ven),.v (vS a.o.id),.v (vS a.o.acc),.v (vS a.o.sym),.v (vB a.o.buy),.v (vI a.o.qty),.v (vI a.o.price),.v (vI a.o.done),.v (vB a.o.op),.v (vS a.id),
 .v (vS a.x.id),.v (vS a.x.ref),.v (vS a.x.ord),.v (vS a.x.acc),.v (vS a.x.sym),.v (vI a.x.kind),.v (vB a.x.buy),.v (vI a.x.qty),.v (vI a.x.price),.v (vI a.x.time),.v (vI a.now),.v (vB a.on),
 .v (vS a.l.acc),.v (vS a.l.sym),.v (vI a.l.long),.v (vI a.l.short),.v (vI a.l.qty),.v (vI a.l.value)]
abbrev aD (a:Ask):D:=.e (.a (aC a))
def venB (n:Int):Bool:=decide (0≤n) && decide (n≤9)
def qKA1:=PLift.up (An @Zh (An @getD_rI @getD_mapD))
theorem isVenue_c (n:Int):ACall Tryz.prog 143 [] [I n] (B (venB n)) []:=by
 refine Ac Tryz.func143 ?_
 refine Wk qKA1.1 trivial ?_
 first|exact Fn @Tryz.results143 qKA1.1 trivial|refine Fn @Tryz.results143 qKA1.1 ?_
 rfl
theorem names_c (l:List ByteArray) (hl:l.length≤100) (r:Bool) (hr:l.all NS.nameB=r):ACall Tryz.prog 144 [] [ssD l] (B r) []:=by
 refine Ac Tryz.func144 ?_
 refine Wk qKA1.1 @NS.name_c ?_
 refine AWp.loop (fun k:Nat=>mkSt [(5,ssD l),(6,I l.length),(7,I k)] [] 0) (fun k=>k≤l.length∧∀i,i<k→NS.nameB (l.getD i default)=true) (fun k=>l.length - k) 0 ⟨Nat.zero_le _,fun i h=>by omega⟩ (by refine Le.of (τ:=[]) (ν:=[]) (by kernel_rfl) ?_ ?_<;>((first|exact Lw qKA1.1 trivial|refine Lw qKA1.1 ?_);try omega)) fun k hk=>?_
 obtain ⟨hk,hi⟩:=hk
 refine Wk qKA1.1 @NS.name_c ?_
 refine Cc ?_ ?_<;>intro hc<;>(try simp only[Za,ne_eq]at hc)
 ·have hkl:k<l.length:=by omega
  refine Wk qKA1.1 @NS.name_c ?_
  refine Cc ?_ ?_<;>intro hc<;>(try simp only[Za,ne_eq]at hc)
  ·have e:r=false:=by
    rw[←hr,List.all_eq_false]
    refine ⟨l.getD k default,?_,by rw[hc];decide⟩
    rw[List.getD_eq_getElem?_getD,List.getElem?_eq_getElem hkl];exact List.getElem_mem hkl
   subst e
   refine Wk qKA1.1 @NS.name_c ?_
   first|exact Fn @Tryz.results144 qKA1.1 trivial|refine Fn @Tryz.results144 qKA1.1 ?_
  ·refine Wk qKA1.1 @NS.name_c ?_
   refine Zb (k+1) ⟨by omega,fun i h=>?_⟩ (by omega) (by refine Le.of (τ:=[]) (ν:=[]) (by kernel_rfl) ?_ ?_<;>((first|exact Lw qKA1.1 trivial|refine Lw qKA1.1 ?_);try omega))
   rcases Nat.lt_or_eq_of_le (Nat.le_of_lt_succ h) with h|rfl
   ·exact hi i h
   ·simpa using hc
 ·have e:r=true:=by
   rw[←hr,List.all_eq_true]
   intro x hx
   obtain ⟨i,h,rfl⟩:=List.getElem_of_mem hx
   have:=hi i (by omega)
   rwa [List.getD_eq_getElem?_getD,List.getElem?_eq_getElem h]at this
  subst e
  refine Wk qKA1.1 @NS.name_c ?_
  first|exact Fn @Tryz.results144 qKA1.1 trivial|refine Fn @Tryz.results144 qKA1.1 ?_
def numB (n:Int):Bool:=decide (0≤n) && decide (n≤4611686018427387904)
theorem numbers_c (l:List Int) (hl:l.length≤100) (r:Bool) (hr:l.all numB=r):ACall Tryz.prog 145 [] [.e (.c (.v (sI l)))] (B r) []:=by
 refine Ac Tryz.func145 ?_
 refine Wk qKA1.1 @NS.name_c ?_
 refine AWp.loop (fun k:Nat=>mkSt [(5,.e (.c (.v (sI l)))),(6,I l.length),(7,I k)] [] 0) (fun k=>k≤l.length∧∀i,i<k→numB (l.getD i 0)=true) (fun k=>l.length - k) 0 ⟨Nat.zero_le _,fun i h=>by omega⟩ (by refine Le.of (τ:=[]) (ν:=[]) (by kernel_rfl) ?_ ?_<;>((first|exact Lw qKA1.1 trivial|refine Lw qKA1.1 ?_);try omega)) fun k hk=>?_
 obtain ⟨hk,hi⟩:=hk
 refine Wk qKA1.1 @NS.name_c ?_
 refine Cc ?_ ?_<;>intro hc<;>(try simp only[Za,ne_eq]at hc)
 ·have hkl:k<l.length:=by omega
  refine Wk qKA1.1 @NS.name_c ?_
  refine Cc ?_ ?_<;>intro hc<;>(try simp only[Za,ne_eq]at hc)
  ·have e:r=false:=by
    rw[←hr,List.all_eq_false]
    refine ⟨l.getD k 0,?_,?_⟩
    ·rw[List.getD_eq_getElem?_getD,List.getElem?_eq_getElem hkl];exact List.getElem_mem hkl
    ·simp only[numB,Bool.and_eq_true,decide_eq_true_eq];omega
   subst e
   refine Wk qKA1.1 @NS.name_c ?_
   first|exact Fn @Tryz.results145 qKA1.1 trivial|refine Fn @Tryz.results145 qKA1.1 ?_
  ·refine Wk qKA1.1 @NS.name_c ?_
   refine Zb (k+1) ⟨by omega,fun i h=>?_⟩ (by omega) (by refine Le.of (τ:=[]) (ν:=[]) (by kernel_rfl) ?_ ?_<;>((first|exact Lw qKA1.1 trivial|refine Lw qKA1.1 ?_);try omega))
   rcases Nat.lt_or_eq_of_le (Nat.le_of_lt_succ h) with h|rfl
   ·exact hi i h
   ·simp only[numB,Bool.and_eq_true,decide_eq_true_eq];omega
 ·have e:r=true:=by
   rw[←hr,List.all_eq_true]
   intro x hx
   obtain ⟨i,h,rfl⟩:=List.getElem_of_mem hx
   have:=hi i (by omega)
   rwa [List.getD_eq_getElem?_getD,List.getElem?_eq_getElem h]at this
  subst e
  refine Wk qKA1.1 @NS.name_c ?_
  first|exact Fn @Tryz.results145 qKA1.1 trivial|refine Fn @Tryz.results145 qKA1.1 ?_
def mayK (a:Ask):Bool :=
 if a.kind=1 then venB a.ven && [a.o.id,a.o.acc,a.o.sym].all NS.nameB && [a.o.qty,a.o.price].all numB
 else if a.kind=2 then venB a.ven && [a.id,a.o.id].all NS.nameB && [a.o.qty,a.o.price].all numB
 else if a.kind=3 then venB a.ven && NS.exB { NS.zM with id:=a.x.id,ref:=a.x.ref,order:=a.x.ord,account:=a.x.acc,symbol:=a.x.sym,ekind:=a.x.kind,buy:=a.x.buy,qty:=a.x.qty,price:=a.x.price,etime:=a.x.time }
 else if a.kind=4 then [a.now].all numB
 else if a.kind=5 then true
 else if a.kind=6∨a.kind=7 then venB a.ven
 else if a.kind=8 then [a.l.acc,a.l.sym].all NS.nameB && [a.l.long,a.l.short,a.l.qty,a.l.value].all numB
 else false
def stI (v:Ven) (now pat:Int):Int :=
 if v.bk.bad≠0 then 4
 else if 256≤v.bk.ids.length∨64≤v.bk.ords.length+v.sent.length then 3
 else if pat<now - v.last then 2
 else if v.gap=true then 1 else 0
def worstG (g:Gat) (acc sym:ByteArray):Int×Int:=sumW (g.vens.map fun v=>addW (ofW v.bk acc sym) (pendW v.sent acc sym))
def oA (o:Ord):NA.Ord:=⟨o.id,o.acc,o.sym,o.buy,o.qty,o.price,o.done,o.op⟩
noncomputable def whyL (l:List NA.Lim) (o:Ord) (w:Int×Int):Int:=NA.whyF (NA.findL l o.acc o.sym).1 (NA.findL l o.acc o.sym).2 (oA o) w.1 w.2
noncomputable def whyG (g:Gat) (at_:Nat) (o:Ord):Int :=
 if g.kill=true then 8
 else if stI (g.vens.getD at_ default) g.now g.pat≠0 then 16+stI (g.vens.getD at_ default) g.now g.pat
 else whyL g.lims o (worstG g o.acc o.sym)
def hasO (l:List Ord) (id:ByteArray):Bool:=l.any fun o=>eqB o.id id
def knownV (v:Ven) (id:ByteArray):Bool:=hasO v.bk.ords id || hasO v.sent id
def isAt (g:Gat) (at_:Int):Prop:=0≤at_∧at_<g.vens.length
instance (g:Gat) (at_:Int):Decidable (isAt g at_):=by unfold isAt;infer_instance
def setV (g:Gat) (at_:Int) (v:Ven):Gat:={ g with vens:=g.vens.set at_.toNat v }
abbrev vat (g:Gat) (at_:Int):Ven:=g.vens.getD at_.toNat default
noncomputable def limitG (g:Gat) (x:NA.Lim):Gat×Int:=if (NA.setL g.lims x).2=0 then ({ g with lims:=(NA.setL g.lims x).1 },0) else (g,(NA.setL g.lims x).2)
def killG (g:Gat) (on:Bool):Gat×Int:=({ g with kill:=on },0)
def tickG (g:Gat) (now:Int):Gat×Int:=if now<g.now∨4611686018427387904<now then (g,1) else ({ g with now:=now },0)
def gapG (g:Gat) (at_:Int) (gap:Bool):Gat×Int:=if isAt g at_ then (setV g at_ { vat g at_ with gap:=gap },0) else (g,1)
def resetG (g:Gat) (at_:Int):Gat×Int :=
 if isAt g at_ then (if (vat g at_).bk.bad=0 then (g,8) else (setV g at_ { vat g at_ with bk:={ (vat g at_).bk with bad:=0 } },0)) else (g,1)
def newO (o:Ord):Ord:=⟨o.id,o.acc,o.sym,o.buy,o.qty,o.price,0,true⟩
noncomputable def orderG (g:Gat) (at_:Int) (o:Ord):Gat×Int×Int :=
 if ¬isAt g at_∨NO.mayB (newO o)=false then (g,0,1)
 else if knownV (vat g at_) o.id=true then (g,0,7)
 else if whyG g at_.toNat (newO o)≠0 then (g,whyG g at_.toNat (newO o),0)
 else (setV g at_ { vat g at_ with sent:=(vat g at_).sent++[newO o] },0,0)
def chgO (o:Ord) (id:ByteArray) (qty price:Int):Ord:=⟨id,o.acc,o.sym,o.buy,qty,price,o.done,o.op⟩
def morO (o:Ord):Ord:=⟨o.id,o.acc,o.sym,o.buy,o.qty - o.done,o.price,0,o.op⟩
noncomputable def changeG (g:Gat) (at_:Int) (old id:ByteArray) (qty price:Int):Gat×Int×Int :=
 if ¬isAt g at_ then (g,0,1)
 else if (NO.findS (vat g at_).bk.ords old).2=false∨(NO.findS (vat g at_).bk.ords old).1.op=false then (g,0,6)
 else if NO.mayB (chgO (NO.findS (vat g at_).bk.ords old).1 id qty price)=false then (g,0,1)
 else if knownV (vat g at_) id=true then (g,0,7)
 else if whyG g at_.toNat (morO (chgO (NO.findS (vat g at_).bk.ords old).1 id qty price))≠0 then (g,whyG g at_.toNat (morO (chgO (NO.findS (vat g at_).bk.ords old).1 id qty price)),0)
 else (setV g at_ { vat g at_ with sent:=(vat g at_).sent++[chgO (NO.findS (vat g at_).bk.ords old).1 id qty price] },0,0)
def exM (x:Exe):NS.Msg:={ NS.zM with id:=x.id,ref:=x.ref,order:=x.ord,account:=x.acc,symbol:=x.sym,ekind:=x.kind,buy:=x.buy,qty:=x.qty,price:=x.price,etime:=x.time }
def exB (x:Exe):Bool:=NS.exB (exM x)
def sentP (x:Exe) (o:Ord):Bool:=eqB o.id x.ord && (eqB o.acc x.acc && (eqB o.sym x.sym && (o.buy == x.buy && (o.qty == x.qty && (o.price == x.price && (o.done == 0 || x.kind == 4))))))
def sentI (l:List Ord) (x:Exe):Int:=fstI (sentP x) l
noncomputable def toldG (g:Gat) (at_:Int) (x:Exe):Gat×Int×Int :=
 if ¬isAt g at_∨exB x=false then (g,0,1)
 else if (takeS (vat g at_).bk x).2=2∨(takeS (vat g at_).bk x).2=4 then (g,(takeS (vat g at_).bk x).2,0)
 else if (x.kind=1∨x.kind=4)∧sentI (vat g at_).sent x<0 then
  (setV g at_ { vat g at_ with bk:={ (vat g at_).bk with ids:=(vat g at_).bk.ids++[x.id],bad:=2 } },3,0)
 else if (takeS (vat g at_).bk x).2=1 then
  (if x.kind=1∨x.kind=4 then setV g at_ { vat g at_ with bk:=(takeS (vat g at_).bk x).1,last:=g.now,sent:=(vat g at_).sent.eraseIdx (sentI (vat g at_).sent x).toNat }
   else setV g at_ { vat g at_ with bk:=(takeS (vat g at_).bk x).1,last:=g.now },1,0)
 else (setV g at_ { vat g at_ with bk:=(takeS (vat g at_).bk x).1 },3,0)
theorem indexG_c (l:List Ord) (p:Ord→Bool) (f:Nat) (cs:List V) (hclo:∀o,ACall Tryz.prog f [] [NO.oD o,.q cs] (B (p o)) []) (hl:l.length≤1000000):ACall Tryz.prog 126 [] [NO.osD l,.e (.c (.v (.f f [cs])))] (I (fstI p l)) []:=by
 refine Ac Tryz.func126 ?_
 refine Wk @NO.Zf @hclo ?_
 refine AWp.loop (fun k:Nat=>mkSt [(0,NO.osD l),(1,.e (.c (.v (.f f [cs])))),(7,I l.length),(8,I k)] [] 0) (fun k=>k≤l.length∧∀i,i<k→p (l.getD i default)=false) (fun k=>l.length - k) 0 ⟨Nat.zero_le _,fun i hi=>by omega⟩ (by refine Le.of (τ:=[]) (ν:=[]) (by kernel_rfl) ?_ ?_<;>((refine Lv @NO.Zf fun eE=>?_;first|exact Lw (@Box.out _ eE) trivial|refine Lw (@Box.out _ eE) ?_);try omega)) fun k hk=>?_
 obtain ⟨hk,ho⟩:=hk
 refine Wk @NO.Zf @hclo ?_
 refine Cc ?_ ?_<;>intro hc<;>(try simp only[Za,ne_eq]at hc)
 ·refine Wk @NO.Zf @hclo ?_
  refine Cc ?_ ?_<;>intro hc<;>(try simp only[Za,ne_eq]at hc)
  ·refine Wk @NO.Zf @hclo ?_
   have e:fstI p l=k:=fstI_some (by omega) ho hc
   rw[e]
   first|exact Fn @Tryz.results126 @NO.Zf trivial|refine Fn @Tryz.results126 @NO.Zf ?_
  ·refine Wk @NO.Zf @hclo ?_
   refine Zb (k+1) ⟨by omega,fun i hi=>?_⟩ (by omega) (by refine Le.of (τ:=[]) (ν:=[]) (by kernel_rfl) ?_ ?_<;>((refine Lv @NO.Zf fun eE=>?_;first|exact Lw (@Box.out _ eE) trivial|refine Lw (@Box.out _ eE) ?_);try omega))
   by_cases e:i=k
   ·subst e;simpa using hc
   ·exact ho i (by omega)
 ·refine Wk @NO.Zf @hclo ?_
  have e:fstI p l=-1:=fstI_none fun i hi=>ho i (by omega)
  rw[e]
  first|exact Fn @Tryz.results126 @NO.Zf trivial|refine Fn @Tryz.results126 @NO.Zf ?_
theorem contG_c (l:List Ord) (p:Ord→Bool) (f:Nat) (cs:List V) (hclo:∀o,ACall Tryz.prog f [] [NO.oD o,.q cs] (B (p o)) []) (hl:l.length≤1000000) (r:Bool) (hr:l.any p=r):ACall Tryz.prog 179 [] [NO.osD l,.e (.c (.v (.f f [cs])))] (B r) []:=by
 subst hr
 rw[←fstI_any]
 have hix:=indexG_c l p f cs hclo hl
 refine Ac Tryz.func179 ?_
 refine Wk @NO.Zf @hix ?_
 first|exact Fn @Tryz.results179 @NO.Zf trivial|refine Fn @Tryz.results179 @NO.Zf ?_
theorem has1_c (id:ByteArray) (o:Ord):ACall Tryz.prog 180 [] [NO.oD o,.q [vS id]] (B (eqB o.id id)) []:=by
 refine Ac Tryz.func180 ?_
 refine Wk @NO.Zf trivial ?_
 first|exact Fn @Tryz.results180 @NO.Zf trivial|refine Fn @Tryz.results180 @NO.Zf ?_
theorem has_c (l:List Ord) (id:ByteArray) (hl:l.length≤1000000) (r:Bool) (hr:hasO l id=r):ACall Tryz.prog 121 [] [NO.osD l,StD id] (B r) []:=by
 have hcont:=contG_c l (fun o=>eqB o.id id) 180 [vS id] (has1_c id) hl r hr
 refine Ac Tryz.func121 ?_
 refine Wk @NO.Zf @hcont ?_
 first|exact Fn @Tryz.results121 @NO.Zf trivial|refine Fn @Tryz.results121 @NO.Zf ?_
theorem known_c (v:Ven) (id:ByteArray) (h1:v.bk.ords.length≤1000000) (h2:v.sent.length≤1000000) (r:Bool) (hr:knownV v id=r):ACall Tryz.prog 51 [] [vnD v,StD id] (B r) []:=by
 subst hr
 have hhas1:=has_c v.bk.ords id h1 _ rfl
 have hhas2:=has_c v.sent id h2 _ rfl
 refine Ac Tryz.func51 ?_
 refine Wk @NO.Zf (An @hhas1 @hhas2) ?_
 first|exact Fn @Tryz.results51 @NO.Zf trivial|refine Fn @Tryz.results51 @NO.Zf ?_
 rfl
theorem rightV_c (v:Ven) (now:Int) (h:venP v now):ACall Tryz.prog 113 [] [vnD v,I now] (B true) []:=by
 have hbk:=bkRight_c v.bk h.bk
 have hsr:ACall Tryz.prog 100 [] [NO.osD v.sent] (B true) []:=by rw[←h.sent];exact NO.right_c _
 have hroom:=h.room
 have hlast:=h.last
 refine Ac Tryz.func113 ?_
 refine Wk @NO.Zf (An @hbk @hsr) ?_
 refine Cc ?_ ?_<;>intro hc<;>(try simp only[Za,ne_eq]at hc)
 ·contradiction
 ·refine Wk @NO.Zf (An @hbk @hsr) ?_
  refine Cc ?_ ?_<;>intro hc<;>(try simp only[Za,ne_eq]at hc)
  ·exfalso;omega
  ·refine Wk @NO.Zf (An @hbk @hsr) ?_
   refine AWp.loop (fun i:Nat=>mkSt [(2,.p 0 0),(38,NO.osD v.sent),(39,I v.sent.length),(40,I i)] [(0,.loc (vnC v))] 1) (fun i=>i≤v.sent.length) (fun i=>v.sent.length - i) 0 (Nat.zero_le _) (by refine Le.of (τ:=[]) (ν:=[]) (by kernel_rfl) ?_ ?_<;>((refine Lv @NO.Zf fun eE=>?_;first|exact Lw (@Box.out _ eE) trivial|refine Lw (@Box.out _ eE) ?_);try omega)) fun i hi=>?_
   refine Wk @NO.Zf (An @hbk @hsr) ?_
   refine Cc ?_ ?_<;>intro hc<;>(try simp only[Za,ne_eq]at hc)
   ·have hil:i<v.sent.length:=by omega
    obtain ⟨hop,hno⟩:=h.op _ (getD_memO hil)
    have hhas:=has_c v.bk.ords (v.sent.getD i default).id (by omega) false hno
    refine Wk (An @hno (An @hop @NO.Zf)) (An @hbk (An @hsr @hhas)) ?_
    refine Cc ?_ ?_<;>intro hc<;>(try simp only[Za,ne_eq]at hc)
    ·contradiction
    ·refine Wk (An @hno (An @hop @NO.Zf)) (An @hbk (An @hsr @hhas)) ?_
     refine Zb (i+1) (show i+1≤v.sent.length by omega) (by omega) (by refine Le.of (τ:=[]) (ν:=[]) (by kernel_rfl) ?_ ?_<;>((refine Lv (An @hno (An @hop @NO.Zf)) fun eE=>?_;first|exact Lw (@Box.out _ eE) trivial|refine Lw (@Box.out _ eE) ?_);try omega))
   ·refine Wk @NO.Zf (An @hbk @hsr) ?_
    first|exact Fn @Tryz.results113 @NO.Zf trivial|refine Fn @Tryz.results113 @NO.Zf ?_
end Eng
end Go.Proofs.YtgenjpingdkmgaaGreatDoor
