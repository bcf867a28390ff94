/- Contracts of functions that this seat's law calls. No condition. -/
import Derived.Test.YtgenjpingdkmgaaGreatDoorM21
set_option maxRecDepth 100000
set_option linter.unusedSimpArgs false
set_option linter.unusedVariables false
namespace Go.Proofs.YtgenjpingdkmgaaGreatDoor
namespace Eng
namespace ND
abbrev W32 (n:BitVec 32):D:=.e (.c (.v (.x (.int .u32 (n.toNat:Int)))))
theorem sums_le (H H2:Nat→Option Blk) (τ:Nat→Nat) (ν:List Nat) (i:Nat):CsLe H H2 τ ν (sumsAt i) (sumsAt i)=True:=by
 unfold sumsAt
 generalize List.range 256=l
 induction l with
 | nil=>rfl
 | cons a l ih=>simp only[List.map_cons,CsLe,CLe,VLe,ih,and_true]
theorem sums_ids (i:Nat):(sumsAt i).flatMap idsC=[]:=by
 unfold sumsAt
 generalize List.range 256=l
 induction l with
 | nil=>rfl
 | cons a l ih=>simp only[List.map_cons,List.flatMap_cons,idsC,List.nil_append,ih]
theorem sums_ren (τ:Nat→Nat) (i:Nat):(sumsAt i).map (renC τ)=sumsAt i:=by
 unfold sumsAt
 rw[List.map_map];rfl
def qDC31:=PLift.up (An @wrap_u32 (An @bv_and1 (An @bv_xorP (An @bv_shr1 (An @bv_shr1b (An @bv_odd (An @Int.toNat_natCast (An @List.length_cons.{0} (An @Yf @sums_le)))))))))
theorem fill_c (x y z:Value):ACall Tryz.prog 255 [.loc (.v (.x x)::.v (.x y)::.v (.x z)::sumsAt 0)] [.p 0 0] (.t []) [.loc (.v (.x x)::.v (.x y)::.v (.x z)::sumsAt 256)]:=by
 have h1:True:=trivial
 have h2:True:=trivial
 refine Ac Tryz.func255 ?_
 refine Wk (An @h1 (An @h2 qDC31.1)) trivial ?_
 refine AWp.loop (fun k:Nat=>mkSt [(0,.p 0 0),(5,I k)] [(0,.loc (.v (.x x)::.v (.x y)::.v (.x z)::sumsAt k))] 1) (fun k=>k≤256) (fun k=>256 - k) 0 (Nat.zero_le _) (by refine Le.of (τ:=[]) (ν:=[]) (by kernel_rfl) ?_ ?_<;>((refine Lv (An @h1 (An @h2 qDC31.1)) fun eE=>?_;first|exact Lw (@Box.out _ eE) trivial|refine Lw (@Box.out _ eE) ?_);try omega)) fun k hk=>?_
 refine Wk (An @h1 (An @h2 qDC31.1)) trivial ?_
 refine Cc ?_ ?_<;>intro hc<;>(try simp only[Za,ne_eq]at hc)
 ·have hk2:k<256:=by omega
  refine Wk (An @h1 (An @h2 qDC31.1)) trivial ?_
  have h1:(k:Int)=((bits 0 (BitVec.ofNat 32 k)).toNat:Int):=by
   simp only[bits,BitVec.toNat_ofNat];omega
  refine AWp.loop (fun i:Nat=>mkSt [(0,.p 0 0),(5,I k),(2,I k),(3,W32 (bits i (BitVec.ofNat 32 k))),(10,I i)] [(0,.loc (.v (.x x)::.v (.x y)::.v (.x z)::sumsAt k))] 1) (fun i=>i≤8) (fun i=>8 - i) 0 (Nat.zero_le _) (by refine Le.of (τ:=[]) (ν:=[]) (by kernel_rfl) ?_ ?_<;>((refine Lv (An @h1 (An @h2 qDC31.1)) fun eE=>?_;first|exact Lw (@Box.out _ eE) trivial|refine Lw (@Box.out _ eE) ?_);try (first|omega|exact h1))) fun i hi=>?_
  have h1:True:=trivial
  refine Wk (An @h1 (An @h2 qDC31.1)) trivial ?_
  refine Cc ?_ ?_<;>intro hc<;>(try simp only[Za,ne_eq]at hc)
  ·refine Wk (An @h1 (An @h2 qDC31.1)) trivial ?_
   refine Cc ?_ ?_<;>intro hc<;>(try simp only[Za,ne_eq]at hc)
   ·have h2:=bits_odd hc
    refine Wk (An @h1 (An @h2 qDC31.1)) trivial ?_
    refine Zb (i+1) (by omega) (by omega) (by refine Le.of (τ:=[]) (ν:=[]) (by kernel_rfl) ?_ ?_<;>((refine Lv (An @h1 (An @h2 qDC31.1)) fun eE=>?_;first|exact Lw (@Box.out _ eE) trivial|refine Lw (@Box.out _ eE) ?_);try omega))
   ·have h2:=bits_even hc
    refine Wk (An @h1 (An @h2 qDC31.1)) trivial ?_
    refine Zb (i+1) (by omega) (by omega) (by refine Le.of (τ:=[]) (ν:=[]) (by kernel_rfl) ?_ ?_<;>((refine Lv (An @h1 (An @h2 qDC31.1)) fun eE=>?_;first|exact Lw (@Box.out _ eE) trivial|refine Lw (@Box.out _ eE) ?_);try omega))
  ·have h8:i=8:=by omega
   subst h8
   have h2:=sums_put (.v (.x x)) (.v (.x y)) (.v (.x z)) k hk2
   refine Wk (An @h1 (An @h2 qDC31.1)) trivial ?_
   refine Zb (k+1) (by omega) (by omega) (by refine Le.of (τ:=[]) (ν:=[]) (by kernel_rfl) ?_ ?_<;>((refine Lv (An @h1 (An @h2 qDC31.1)) fun eE=>?_;first|exact Lw (@Box.out _ eE) trivial|refine Lw (@Box.out _ eE) ?_);try omega))
 ·have h8:k=256:=by omega
  subst h8
  refine Wk (An @h1 (An @h2 qDC31.1)) trivial ?_
  first|exact Fn @Tryz.results255 (An @h1 (An @h2 qDC31.1)) trivial|refine Fn @Tryz.results255 (An @h1 (An @h2 qDC31.1)) ?_
end ND
section
namespace ND
theorem all2_set {α β:Type} {R:α→β→Prop}:∀ {xs:List α} {ys:List β} {n:Nat} {a:α} {b:β},All2 R xs ys→R a b→All2 R (xs.set n a) (ys.set n b)
 | [],[],_,_,_,_,_=>trivial
 | _::_,_::_,0,_,_,⟨_,hs⟩,h=>⟨h,hs⟩
 | _::_,_::_,_+1,_,_,⟨h0,hs⟩,h=>⟨h0,all2_set hs h⟩
 | [],_::_,_,_,_,h,_=>h.elim
 | _::_,[],_,_,_,h,_=>h.elim
section one
variable {own0 mt:Nat→Prop} {w0 w:World} {ρ:Nat→Option Pl} {cs:List C} {b c:Nat}
theorem one_get (hm:Mem own0 mt w0 ρ (fun i=>[Blk.loc cs][i]?) w) (hp:ρ 0=some (.blk b 0 c)) {off:Nat} {v:Value} (hv:cs[off]?=some (.v (.x v))) :
 w.cell? ⟨b,off,none⟩=some v∧w.frozen? ⟨b,off,none⟩=false:=by
 obtain ⟨b',c',hp',vs,T,fr,hh,hf,ha⟩:=hm.blks 0 _ rfl
 rw[hp]at hp';cases hp'
 obtain ⟨u,hu,hr⟩:=ha.get hv
 obtain ⟨rfl,_⟩:u=v∧v.oneCell=true:=rep_x (show RepD w _ ρ (.x v) u from hr)
 have hlt:off<vs.size:=by
  have:=(List.getElem?_eq_some_iff.1 hu).1
  simpa using this
 refine ⟨by simp[World.cell?,hh];simpa using hu,?_⟩
 have:=hf.1.off off hlt
 simp only[World.frozen?,hh]
 simp only[Bool.and_eq_false_iff,decide_eq_false_iff_not,ge_iff_le,Bool.eq_false_iff]
 simp
 omega
theorem one_set (hm:Mem own0 mt w0 ρ (fun i=>[Blk.loc cs][i]?) w) (hp:ρ 0=some (.blk b 0 c)) (off:Nat) {v:Value} (hv:v.oneCell=true) :
 Mem own0 mt w0 ρ (fun i=>[Blk.loc (cs.set off (.v (.x v)))][i]?) (w.setCell ⟨b,off,none⟩ v):=by
 obtain ⟨b',c',hp',vs,T,fr,hh,hf,ha⟩:=hm.blks 0 _ rfl
 rw[hp]at hp';cases hp'
 rw[setCell_eq hh]
 have hlive:live ((fun i=>[Blk.loc cs][i]?) 0)=true:=rfl
 have h:=(hm.write (blk:=.loc (cs.set off (.v (.x v)))) hp hlive rfl (vs.setIfInBounds off v) T fr
  ⟨b,c,hp,_,T,fr,Yi (Array.getElem?_eq_some_iff.1 hh).1,hf.size (by simp),by
   rw[Array.toList_setIfInBounds]
   exact (all2_set (n:=off) (a:=C.v (.x v)) ha (show RepC w _ ρ (.v (.x v)) v from RepV.x v hv)).mono fun _ _ h=>h.mono (Keep.setBlk (.inr ⟨0,_,_,hp,hlive⟩) _) (fun _ _ h=>h) (.refl _)⟩).1
 have e:upd (fun i=>[Blk.loc cs][i]?) 0 (some (Blk.loc (cs.set off (.v (.x v)))))=fun i=>[Blk.loc (cs.set off (.v (.x v)))][i]?:=by
  funext i
  cases i with
  | zero=>rfl
  | succ i=>simp[upd]
 rwa [e]at h
theorem one_call {f:Nat} {args:List D} {val:D} {cs':List C} {vs:List Value} (hc:ACall Tryz.prog f [.loc cs] args val [.loc cs']) (hm:Mem own0 (Hd ρ) w0 ρ (fun i=>[Blk.loc cs][i]?) w) (hp:ρ 0=some (.blk b 0 c))
 (ha:All2 (RepD w (Ow own0 ρ fun i=>[Blk.loc cs][i]?) ρ) args vs) :
 Calls Tryz.prog f vs.toArray w fun e w'=>∃u,e=.returned u∧RepD w' (Ow own0 ρ fun i=>[Blk.loc cs'][i]?) ρ val u∧Mem own0 (Hd ρ) w0 ρ (fun i=>[Blk.loc cs'][i]?) w':=by
 have hm1:Mem own0 (Hd ρ) w ρ (fun i=>[Blk.loc cs][i]?) w:={ hm with
  fresh:=fun i b c k h=>⟨.inr ⟨i,c,k,h⟩,(hm.fresh i b c k h).2⟩
  keep:=KeepM.refl _ _
  own0:=fun b hb=>Nat.lt_of_lt_of_le (hm.own0 b hb) hm.keep.size
  glob:=hm.glob.next2 hm.keep (fun _ e=>.inl e) fun b hb=>.inr hb }
 refine (hc.2 own0 w ρ vs hm1 ha).mono ?_
 rintro e w' ⟨u,ρ',rfl,hs,hr,hm2⟩
 have e:ρ'=ρ:=by
  funext i
  cases i with
  | zero=>rw[hp];exact hs _ _ hp
  | succ i=>rw[hm.defd (i+1) (by simp),hm2.defd (i+1) (by simp)]
 subst e
 refine ⟨u,rfl,hr,{ hm2 with
  fresh:=fun i b c k h=>⟨(hm.fresh i b c k h).1,(hm2.fresh i b c k h).2⟩
  keep:=hm.keep.trans hm2.keep
  own0:=hm.own0
  glob:=hm.glob }⟩
end one
abbrev tabC (d:Int) (s:Int) (i:Nat):List C:=.v (.x (.int .u32 d))::.v (.x (.int .i32 s))::.v (.x (.int .u32 0))::sumsAt i
theorem run_not (x:Bool) (w:World):(Op.unary .not (.bool x)).run Tryz.prog w=.ok (.bool (!x)) w:=rfl
set_option maxHeartbeats 1600000 in
theorem do_first (b:Nat) (arg:Value) (Q:World→Prop) (w:World)
 (h0:w.cell? ⟨b,0,none⟩=some (.int .u32 0)) (h1:w.cell? ⟨b,1,none⟩=some (.int .i32 0))
 (f0:w.frozen? ⟨b,0,none⟩=false) (f1:w.frozen? ⟨b,1,none⟩=false)
 (hf:Calls Tryz.prog 255 #[arg] (w.setCell ⟨b,1,none⟩ (.int .i32 1)) fun e w'=>e=.returned (.tuple #[])∧Q w')
 (hq0:∀w',Q w'→w'.cell? ⟨b,0,none⟩=some (.int .u32 0)) (hq1:∀w',Q w'→w'.cell? ⟨b,1,none⟩=some (.int .i32 1))
 (hq2:∀w',Q w'→w'.frozen? ⟨b,0,none⟩=false) (hq3:∀w',Q w'→w'.frozen? ⟨b,1,none⟩=false) :
 Calls Tryz.prog 254 #[.pointer (some ⟨b,0,none⟩),.func (.func 255) #[arg] #[]] w fun e w'=>e=.returned (.tuple #[]) ∧
  ∃w1,Q w1∧w'=(w1.drew.setCell ⟨b,0,none⟩ (.int .u32 1)).setCell ⟨b,1,none⟩ (.int .i32 0):=by
 have hl:=run_call_load (P:=Tryz.prog) Tryz.func319 (by kernel_rfl) (by kernel_rfl) (by kernel_rfl) .u32 (by kernel_rfl) h0
 have hnot:=run_not
 go_enter Tryz.func254,Tryz.ntmps254
 go_wp2_with (first|(go_at_call 292;refine (Once.slow_any b 64 arg Q _ h0 h1 f0 f1 hf hq0 hq1 hq2 hq3).mono ?_;rintro e w' ⟨rfl,hQ⟩)|(go_at_call 291;go_in))
 go_end0
 exact ⟨rfl,hQ⟩
theorem do_done (a:Addr) (d:Int) (hd:¬d=0) (fv:Value) (w:World) (h0:w.cell? a=some (.int .u32 d)) :
 Calls Tryz.prog 254 #[.pointer (some a),fv] w fun e w'=>e=.returned (.tuple #[])∧w'=w:=by
 have hl:=run_call_load (P:=Tryz.prog) Tryz.func319 (by kernel_rfl) (by kernel_rfl) (by kernel_rfl) .u32 (by kernel_rfl) h0
 have hnot:=run_not
 have hd':(d != 0)=true:=by simp[hd]
 go_enter Tryz.func254,Tryz.ntmps254
 go_wp2
 go_end0
 exact ⟨rfl,rfl⟩
end ND
end
namespace ND
theorem run_mf (fn:Go.Fn) (first cap:Array Value) (w:World):(Instr.makeFunc fn first cap).run Tryz.prog w=.ok (.func fn first cap) w:=rfl
theorem sums_get2 (d s:Int) (c:BitVec 8):(tabC d s 256)[3+c.toNat]?=some (.v (.x (.int .u32 ((tab c).toNat:Int)))):=by
 rw[Nat.add_comm]
 simp only[List.getElem?_cons_succ]
 have:=sums_get c
 rw[List.getD_eq_getElem?_getD]at this
 have hlt:c.toNat<(sumsAt 256).length:=by rw[Yf];exact c.isLt
 rw[List.getElem?_eq_getElem hlt]at this ⊢
 simpa using this
set_option maxHeartbeats 1600000 in
theorem of_run (c:BitVec 8) (b:Nat) (Q:World→Prop) (w:World)
 (hd:Calls Tryz.prog 254 #[.pointer (some ⟨b,0,none⟩),.func (.func 255) #[.pointer (some ⟨b,0,none⟩)] #[]] w fun e w'=>e=.returned (.tuple #[])∧Q w')
 (hq:∀w',Q w'→w'.cell? ⟨b,3+c.toNat,none⟩=some (.int .u32 ((tab c).toNat:Int))) :
 Calls Tryz.prog 205 #[.pointer (some ⟨b,0,none⟩),.int .u8 (c.toNat:Int)] w fun e w'=>e=.returned (.int .u32 ((tab c).toNat:Int))∧Q w':=by
 have hmf:=run_mf
 have hlt:(c.toNat:Int)<256:=by have:=c.isLt;omega
 go_enter Tryz.func205,Tryz.ntmps205
 go_wp2_with (go_at_call 254;refine hd.mono ?_;rintro e w' ⟨rfl,hQ⟩;have hcell:=hq _ hQ)
 go_ret
 exact ⟨rfl,hQ⟩
abbrev U8b (c:BitVec 8):D:=.e (.c (.v (.x (.int .u8 (c.toNat:Int)))))
theorem of_c (c:BitVec 8) (d:Int) (i:Nat) (h:(d=0∧i=0)∨(d=1∧i=256)):ACall Tryz.prog 205 [.loc (tabC d 0 i)] [.p 0 0,U8b c] (W32 (tab c)) [.loc (tabC 1 0 256)]:=by
 refine ⟨⟨_,Tryz.func205,by kernel_rfl,by kernel_rfl⟩,?_⟩
 intro own0 w ρ vs hm ha
 match vs,ha with
 | [pv,cv],⟨hpv,hcv,_⟩ =>
 obtain ⟨b,z,cc,hp,rfl⟩:=hpv
 have hz:z=0:=by
  obtain ⟨b',c',hp',_⟩:=hm.blks 0 _ rfl
  rw[hp]at hp';cases hp';rfl
 subst hz
 obtain ⟨rfl,_⟩:=rep_x hcv
 simp only[Nat.add_zero]
 have h0:=one_get (off:=0) hm hp rfl
 have h1:=one_get (off:=1) hm hp rfl
 refine (of_run c b (fun w'=>Mem own0 (Hd ρ) w ρ (fun i=>[Blk.loc (tabC 1 0 256)][i]?) w') w ?_ ?_).mono ?_
 ·rcases h with ⟨rfl,rfl⟩|⟨rfl,rfl⟩
  ·have hm1:=one_set (v:=.int .i32 1) hm hp 1 rfl
   have hf:=one_call (fill_c (.int .u32 0) (.int .i32 1) (.int .u32 0)) hm1 hp (vs:=[.pointer (some ⟨b,0,none⟩)]) ⟨⟨b,0,cc,hp,rfl⟩,trivial⟩
   refine (do_first b _ (fun w'=>Mem own0 (Hd ρ) w ρ (fun i=>[Blk.loc (tabC 0 1 256)][i]?) w') w h0.1 h1.1 h0.2 h1.2 ?_ ?_ ?_ ?_ ?_).mono ?_
   ·refine hf.mono ?_
    rintro e w' ⟨u,rfl,hr,hm2⟩
    obtain ⟨us,rfl,hu⟩:=hr
    match us,hu with
    | [],_=>exact ⟨rfl,hm2⟩
   ·exact fun w' hq=>(one_get (off:=0) hq hp rfl).1
   ·exact fun w' hq=>(one_get (off:=1) hq hp rfl).1
   ·exact fun w' hq=>(one_get (off:=0) hq hp rfl).2
   ·exact fun w' hq=>(one_get (off:=1) hq hp rfl).2
   ·rintro e w' ⟨rfl,w1,hq,rfl⟩
    exact ⟨rfl,one_set (v:=.int .i32 0) (one_set (v:=.int .u32 1) hq.drew hp 0 rfl) hp 1 rfl⟩
  ·refine (do_done ⟨b,0,none⟩ 1 (by decide) _ w h0.1).mono ?_
   rintro e w' ⟨rfl,rfl⟩
   exact ⟨rfl,hm⟩
 ·exact fun w' hq=>(one_get hq hp (sums_get2 1 0 c)).1
 ·rintro e w' ⟨rfl,hq⟩
  exact ⟨_,ρ,rfl,Sub.refl _,rep_x_mk rfl,hq⟩
end ND
namespace ND
abbrev diskD (s0 t0 s1 t1:List Int):D:=.e (.a [.v (sB s0),.v (sB t0),.v (sB s1),.v (sB t1)])
abbrev SB (xs:List Int):D:=.e (.c (.v (sB xs)))
end ND
namespace ND
def tot (xss:List (List Int)) (k:Nat):Nat:=((xss.take k).flatten).length
theorem take_succ_flat (xss:List (List Int)) (k:Nat) (h:k<xss.length):(xss.take (k+1)).flatten=(xss.take k).flatten++xss.getD k default:=by
 rw[List.take_add_one,List.flatten_append]
 simp[List.getElem?_eq_getElem h,List.getD_eq_getElem?_getD]
theorem tot_succ (xss:List (List Int)) (k:Nat) (h:k<xss.length):tot xss (k+1)=tot xss k+(xss.getD k default).length:=by
 simp only[tot,take_succ_flat xss k h,List.length_append]
theorem tot_map (xss:List (List Int)) (k:Nat) (f:Int→List V):((xss.take k).flatten.map f).length=tot xss k:=by rw[List.length_map,tot]
theorem tot_zero (xss:List (List Int)):tot xss 0=0:=rfl
theorem tot_all (xss:List (List Int)):tot xss xss.length=xss.flatten.length:=by simp[tot]
theorem tot_le (xss:List (List Int)) (k:Nat):tot xss k≤xss.flatten.length:=by
 have:xss.flatten=(xss.take k).flatten++(xss.drop k).flatten:=by rw[←List.flatten_append,List.take_append_drop]
 rw[this,List.length_append,tot];omega
abbrev SS (xss:List (List Int)):D:=.e (.c (.v (.s 1 (xss.map fun x=>[sB x]))))
end ND
namespace ND
def dI (m:Bool):Int:=if m then 1 else 0
def iN (m:Bool):Nat:=if m then 256 else 0
theorem dI_t:dI true=1:=rfl
theorem iN_t:iN true=256:=rfl
theorem made (m:Bool):(dI m=0∧iN m=0)∨(dI m=1∧iN m=256):=by cases m<;>simp[dI,iN]
theorem tz122:tG 304=some ty304∧zeroC ty304=tabC (dI false) 0 (iN false):=⟨by kernel_rfl,by kernel_rfl⟩
theorem crcF_nil (n:BitVec 32):crcF n []=n:=rfl
theorem crcF_app (n:BitVec 32) (xs ys:List Int):crcF n (xs++ys)=crcF (crcF n xs) ys:=List.foldl_append ..
theorem crcF_succ (n:BitVec 32) (xs:List Int) (j:Nat) (h:j<xs.length):(crcF n (xs.take j) >>> 8) ^^^ tab (BitVec.setWidth 8 (crcF n (xs.take j)) ^^^ BitVec.ofInt 8 (xs.getD j 0))=crcF n (xs.take (j+1)):=by
 rw[List.take_add_one,crcF_app,List.getElem?_eq_getElem h,List.getD_eq_getElem?_getD,List.getElem?_eq_getElem h]
 rfl
theorem crcF_part (n:BitVec 32) (xss:List (List Int)) (k:Nat) (h:k<xss.length):crcF (crcF n (xss.take k).flatten) (xss.getD k default)=crcF n (xss.take (k+1)).flatten:=by
 rw[take_succ_flat xss k h,crcF_app]
theorem zDC62 {R G:Prop} (k:R) (h:Box R→G:=by
 intro k
 simp (disch:=omega) only[↓reduceIte,Zx,Nat.reduceEqDiff,Nat.reduceAdd,if_true,if_false,reduceCtorEq,eq_self,Nat.reduceBEq,Nat.mul_one,Int.mul_one,nO_eq,oF_eq,Nat.reduceBEq,Bool.true_or,Bool.false_or,Bool.or_false,Z9,Zn,Int.reduceEq,decide_false,Bool.false_eq_true,false_implies,forall_const,Bool.not_true,Bool.not_false,BEq.rfl,Nat.reduceLT,bv_shr8,bv_shr8b,bv_low,bv_xor8,bv_xor,un_not,Int.toNat_natCast,List.length_cons,Yf,dI_t,iN_t,sums_le,sums_ids,sums_ren,getD_mapD,getD_rB,h1,h2,tl3,tl5,tl24,tl246,tl157,tz122]
 all_goals exact k.out):G:=h ⟨k⟩
theorem zDC61 {R G:Prop} (k:R) (h:Box R→G:=by
 intro k
 repeat' (first|((fail_if_success clear hK);change AWp _ _ _ _ _ _;first|refine AWp.seq ?_|refine AWp.text (own:=nO) tG_ok (by kernel_rfl) (fun K hK=>?_)|refine AWp.draw (own:=nO) tG_ok mixed (by kernel_rfl) (by kernel_rfl) (fun K hK=>?_)|refine AWp.skip ?_|refine AWp.ret ?_|refine AWp.exit ?_|refine AWp.label ?_|refine AWp.block ?_)|(revert hK;intro hK;first|(with_reducible refine hK _ _ _ ?_;clear hK K)|(with_reducible refine hK _ _ _ ?_ ?_;(focus kernel_rfl);clear hK K)|((with_reducible change CallS _ _ _ _ _ _);(first|refine CallS.of (of_c _ (dI m) (iN m) (made m)) ?_))|(with_reducible refine And.intro ?_ ?_)|(simp (disch:=omega) only[↓reduceIte,Zo,backT,pos,idsB,idsC,nodup,live,makeSliceE,viewE,viewFE,appendUE,appendFE,capFE,copyE,copySrc,clearE,guardB,isNilOp,nilS,withTy,splice,lenE,appendE,sliceE,boundE,indexAddrE,indexE,buildE,fillE,buildSliceE,partsE,builtinE,minE,minI,convE,convHE,appendNE,capE,D.x,id_eq,eq_self,if_true,if_false,ne_eq,implies_true,Nat.reduceAdd,Nat.reduceMul,Nat.reduceSub,Nat.reduceEqDiff,Nat.reduceLT,Nat.reduceLeDiff,reduceCtorEq,Nat.mul_one,Int.mul_one,nO_eq,oF_eq,Nat.reduceBEq,Bool.true_or,Bool.false_or,Bool.or_false,Z9,Zn,Int.reduceEq,decide_false,Bool.false_eq_true,false_implies,forall_const,Bool.not_true,Bool.not_false,BEq.rfl,Nat.reduceLT,bv_shr8,bv_shr8b,bv_low,bv_xor8,bv_xor,un_not,Int.toNat_natCast,List.length_cons,Yf,dI_t,iN_t,sums_le,sums_ids,sums_ren,getD_mapD,getD_rB,h1,h2,true_and,tl3,tl5,tl24,tl246,tl157,tz122])|(first|omega|(intro hq;(try simp only[Za,ne_eq,Bool.not_not,Bool.and_true]at hq);first|omega|assumption|(simp_all;done))|(simp_all;done))|(intro (bn:Bool) hbn)))
 all_goals exact k.out):G:=h ⟨k⟩
theorem sumOf_c (xss:List (List Int)) (hl:xss.length≤1000) (hlx:∀k,(xss.getD k default).length≤4611686018427387904):ACall Tryz.prog 153 [] [SS xss] (W32 (crcS xss.flatten)) []:=by
 have h1:True:=trivial
 have h2:True:=trivial
 refine Ac Tryz.func153 ?_
 refine zDC61 ?_
 refine AWp.loop (τ:=ren [(0,64)]) (fun b:Nat×Bool=>mkSt [(3,.p 0 0),(4,W32 (crcF 4294967295#32 (xss.take b.1).flatten)),(9,SS xss),(10,I xss.length),(11,I b.1)] [(0,.loc (tabC (dI b.2) 0 (iN b.2)))] 1)
  (fun b=>b.1≤xss.length) (fun b=>xss.length - b.1) (0,false) (Nat.zero_le _) (by refine Le.of (ν:=[]) (by kernel_rfl) ?_ ?_<;>((first|exact zDC62 trivial|refine zDC62 ?_);try rfl)) fun b hb=>?_
 obtain ⟨k,m⟩:=b
 dsimp only at hb ⊢
 refine zDC61 ?_
 refine Cc ?_ ?_<;>intro hc<;>(try simp only[Za,ne_eq]at hc)
 ·have hk:k<xss.length:=by omega
  have h3:=crcF_part 4294967295#32 xss k hk
  refine zDC61 ?_
  obtain ⟨n,hn⟩:∃n,crcF 4294967295#32 (xss.take k).flatten=n:=⟨_,rfl⟩
  obtain ⟨xs,hx⟩:∃xs,xss.getD k default=xs:=⟨_,rfl⟩
  rw[hn,hx]at h3
  have hxl:=hlx k
  rw[hx]at hxl
  refine AWp.loop (fun b:Nat×Bool=>mkSt [(3,.p 0 0),(4,W32 (crcF n (xs.take b.1))),(9,SS xss),(10,I xss.length),(11,I k),(15,SB xs),(16,I xs.length),(17,I b.1)] [(0,.loc (tabC (dI b.2) 0 (iN b.2)))] 1)
   (fun b=>b.1≤xs.length) (fun b=>xs.length - b.1) (0,m) (Nat.zero_le _) (by refine Le.of (τ:=[]) (ν:=[]) (by kernel_rfl) ?_ ?_<;>((first|exact zDC62 trivial|refine zDC62 ?_);try (refine ⟨by rw[hn,List.take_zero,crcF_nil],by rw[hx],by rw[hx]⟩))) fun b hb2=>?_
  obtain ⟨j,m⟩:=b
  dsimp only at hb2 ⊢
  refine zDC61 ?_
  refine Cc ?_ ?_<;>intro hc<;>(try simp only[Za,ne_eq]at hc)
  ·have h1:=crcF_succ n xs j (by omega)
   refine zDC61 ?_
   refine Zb (j+1,true) (by dsimp only;omega) (by dsimp only;omega) (by refine Le.of (τ:=[]) (ν:=[]) (by kernel_rfl) ?_ ?_<;>((first|exact zDC62 trivial|refine zDC62 ?_);try omega))
  ·obtain rfl:j=xs.length:=by omega
   have h1:crcF n (xs.take xs.length)=crcF 4294967295#32 (xss.take (k+1)).flatten:=by rw[List.take_length];exact h3
   refine zDC61 ?_
   refine Zb (k+1,m) (by dsimp only;omega) (by dsimp only;omega) (by refine Le.of (τ:=[]) (ν:=[]) (by kernel_rfl) ?_ ?_<;>((first|exact zDC62 trivial|refine zDC62 ?_);try omega))
 ·obtain rfl:k=xss.length:=by omega
  refine zDC61 ?_
  change Fin _ _ _ _ _ _;simp only[fe_all,id_eq,Nat.reduceLeDiff,↓reduceIte,Zx,Nat.reduceEqDiff,Nat.reduceAdd,if_true,if_false,reduceCtorEq,eq_self,Nat.reduceBEq,Tryz.results153,tl3,tl5,tl24,tl246,tl157,tz122];refine ⟨[],[],[],by kernel_rfl,?_,?_⟩<;>((first|exact zDC62 trivial|refine zDC62 ?_);try omega)
  rw[crcS,List.take_length]
end ND
namespace ND
theorem u8_nat (n:Nat):IntKind.u8.wrap (n:Int)=((n % 256:Nat):Int):=by
 simp only[IntKind.wrap,IntKind.bits,IntKind.signed]
 simp
theorem len_hi (xs:List Int):IntKind.u8.wrap ((xs.length:Int).fdiv (2 ^ (min (Int.toNat 8) IntKind.i64.bits)))=((xs.length / 256 % 256:Nat):Int):=by
 have:(2:Int) ^ (min (Int.toNat 8) IntKind.i64.bits)=256:=by decide
 rw[this,Int.fdiv_eq_ediv_of_nonneg _ (by omega),show (xs.length:Int) / 256=((xs.length / 256:Nat):Int) by omega,u8_nat]
theorem len_lo (xs:List Int):IntKind.u8.wrap (xs.length:Int)=((xs.length % 256:Nat):Int):=u8_nat _
def hd (n:Nat):List Int:=[((n / 256 % 256:Nat):Int),((n % 256:Nat):Int)]
def b4 (s:BitVec 32):List Int:=[(((s >>> 24).setWidth 8).toNat:Int),(((s >>> 16).setWidth 8).toNat:Int),(((s >>> 8).setWidth 8).toNat:Int),((s.setWidth 8).toNat:Int)]
def sm (r:List Int):BitVec 32:=crcS (hd r.length++r)
def put (r:List Int):List Int:=hd r.length++(b4 (sm r)++r)
theorem put_len (r:List Int):(put r).length=6+r.length:=by simp[put,hd,b4];omega
abbrev rB (xs:List Int):List (List V):=xs.map fun n=>[V.x (.int .u8 n)]
theorem sum1_c (b:List Int) (h:b.length≤4611686018427387904):ACall Tryz.prog 153 [] [.e (.c (.v (.s 1 [[sB b]])))] (W32 (crcS b)) []:=by
 have:=sumOf_c [b] (by simp) (fun k=>by cases k with|zero=>exact h|succ k=>exact Nat.zero_le _)
 rw[show [b].flatten=b by simp]at this
 exact this
theorem sum2_c (a b:List Int) (ha:a.length≤4611686018427387904) (h:b.length≤4611686018427387904):ACall Tryz.prog 153 [] [.e (.c (.v (.s 1 [[sB a],[sB b]])))] (W32 (crcS (a++b))) []:=by
 have:=sumOf_c [a,b] (by simp) (fun k=>by cases k with|zero=>exact ha|succ k=>cases k with|zero=>exact h|succ k=>exact Nat.zero_le _)
 rw[show [a,b].flatten=a++b by simp]at this
 exact this
theorem zDC73 {R G:Prop} (k:R) (h:Box R→G:=by
 intro k
 simp (disch:=omega) only[↓reduceIte,Zx,Nat.reduceEqDiff,Nat.reduceAdd,if_true,if_false,reduceCtorEq,eq_self,Nat.reduceBEq,Nat.mul_one,Int.mul_one,nO_eq,oF_eq,Nat.reduceBEq,Bool.true_or,Bool.false_or,Bool.or_false,Z9,Zn,Int.reduceEq,decide_false,Bool.false_eq_true,false_implies,forall_const,Bool.not_true,Bool.not_false,BEq.rfl,bv_shr8,bv_shr16,bv_shr24,bv_low,len_hi,len_lo,Zi,List.take_length,List.map_append,tl3,tl5,tl24,tl246,tl157,tl38]
 all_goals exact k.out):G:=h ⟨k⟩
theorem zDC72 {R G:Prop} (k:R) (h:Box R→G:=by
 intro k
 change Fin _ _ _ _ _ _;simp only[fe_all,id_eq,Nat.reduceLeDiff,↓reduceIte,Zx,Nat.reduceEqDiff,Nat.reduceAdd,if_true,if_false,reduceCtorEq,eq_self,Nat.reduceBEq,Tryz.results98,tl3,tl5,tl24,tl246,tl157,tl38]
 all_goals exact k.out):G:=h ⟨k⟩
theorem zDC71 {R G:Prop} (k:R) (h:Box R→G:=by
 intro k
 repeat' (first|((fail_if_success clear hK);change AWp _ _ _ _ _ _;first|refine AWp.seq ?_|refine AWp.text (own:=nO) tG_ok (by kernel_rfl) (fun K hK=>?_)|refine AWp.draw (own:=nO) tG_ok mixed (by kernel_rfl) (by kernel_rfl) (fun K hK=>?_)|refine AWp.skip ?_|refine AWp.ret ?_|refine AWp.exit ?_|refine AWp.label ?_|refine AWp.block ?_)|(revert hK;intro hK;first|(with_reducible refine hK _ _ _ ?_;clear hK K)|(with_reducible refine hK _ _ _ ?_ ?_;(focus kernel_rfl);clear hK K)|((with_reducible change CallS _ _ _ _ _ _);(first|refine CallS.of (sum1_c b h) ?_|refine CallS.of (sum2_c (hd r.length) _ (by simp[hd]) (by omega)) ?_))|(with_reducible refine And.intro ?_ ?_)|(simp (disch:=omega) only[↓reduceIte,Zo,backT,pos,idsB,idsC,nodup,live,makeSliceE,viewE,viewFE,appendUE,appendFE,capFE,copyE,copySrc,clearE,guardB,isNilOp,nilS,withTy,splice,lenE,appendE,sliceE,boundE,indexAddrE,indexE,buildE,fillE,buildSliceE,partsE,builtinE,minE,minI,convE,convHE,appendNE,capE,D.x,id_eq,eq_self,if_true,if_false,ne_eq,implies_true,Nat.reduceAdd,Nat.reduceMul,Nat.reduceSub,Nat.reduceEqDiff,Nat.reduceLT,Nat.reduceLeDiff,reduceCtorEq,Nat.mul_one,Int.mul_one,nO_eq,oF_eq,Nat.reduceBEq,Bool.true_or,Bool.false_or,Bool.or_false,Z9,Zn,Int.reduceEq,decide_false,Bool.false_eq_true,false_implies,forall_const,Bool.not_true,Bool.not_false,BEq.rfl,bv_shr8,bv_shr16,bv_shr24,bv_low,len_hi,len_lo,Zi,List.take_length,List.map_append,true_and,tl3,tl5,tl24,tl246,tl157,tl38])|(first|omega|(intro hq;(try simp only[Za,ne_eq,Bool.not_not,Bool.and_true]at hq);first|omega|assumption|(simp_all;done))|(simp_all;done))|(intro (bn:Bool) hbn)))
 all_goals exact k.out):G:=h ⟨k⟩
theorem put_c (r:List Int) (h1:1≤r.length) (h:r.length≤4096):ACall Tryz.prog 98 [] [SB r] (.t [.c (.o 0 (put r).length),.c (.v (.x (.int .i64 0)))]) [.row 1 (rB (put r))]:=by
 refine Ac Tryz.func98 ?_
 refine zDC71 ?_
 refine Cc ?_ ?_<;>intro hc<;>(try simp only[Za,ne_eq]at hc)
 ·omega
 ·refine zDC71 ?_
  refine zDC72 ?_
  refine ⟨[3072],[(0,3072)],[],by kernel_rfl,?_,?_⟩
  ·(first|exact zDC73 trivial|refine zDC73 ?_)
   rfl
  ·(first|exact zDC73 trivial|refine zDC73 ?_)
   rw[put_len];rfl
abbrev u8 (n:Int):List V:=[V.x (.int .u8 n)]
end ND
namespace ND
theorem take_set (xs:List Int) (k:Nat) (v:Int):(xs.set k v).take xs.length=xs.set k v:=List.take_of_length_le (by simp)
end ND
namespace ND
def Byt (b:List Int):Prop:=∀j,0≤b.getD j 0∧b.getD j 0≤255
theorem cv32 (b:List Int) (j:Nat):IntKind.u32.wrap (b.getD j 0)=((BitVec.ofInt 32 (b.getD j 0)).toNat:Int):=by
 simp only[IntKind.wrap,IntKind.bits,IntKind.signed,BitVec.toNat_ofInt]
 simp
 omega
theorem byt_drop {b:List Int} (h:Byt b) (p:Nat):Byt (b.drop p):=fun j=>by
 have:=h (p+j)
 rwa [List.getD_eq_getElem?_getD,List.getElem?_drop,←List.getD_eq_getElem?_getD]
theorem byt_take {b:List Int} (h:Byt b) (p:Nat):Byt (b.take p):=fun j=>by
 have:=h j
 rw[List.getD_eq_getElem?_getD,List.getElem?_take]
 split
 ·rwa [←List.getD_eq_getElem?_getD]
 ·simp
theorem byt_nil:Byt []:=fun j=>by simp
theorem bv_eq (a b:BitVec 32):((a.toNat:Int) == (b.toNat:Int))=decide (a=b):=by
 rw[Bool.eq_iff_iff]
 simp only[beq_iff_eq,decide_eq_true_eq]
 rw[←BitVec.toNat_inj]
 omega
end ND
namespace ND
def qDT11:=PLift.up (An @Zi @among2)
theorem has0_c (s0 t0 s1 t1:List Int):ACall Tryz.prog 155 [] [diskD s0 t0 s1 t1,I 0] (B true) []:=by
 refine Ac Tryz.func155 ?_
 refine Wk qDT11.1 trivial ?_
 first|exact Fn @Tryz.results155 qDT11.1 trivial|refine Fn @Tryz.results155 qDT11.1 ?_
 rfl
theorem zDT11 {R G:Prop} (k:R) (h:Box R→G:=by
 intro k
 simp (disch:=omega) only[↓reduceIte,Zo,backT,pos,idsB,idsC,nodup,live,makeSliceE,viewE,viewFE,appendUE,appendFE,capFE,copyE,copySrc,clearE,guardB,isNilOp,nilS,withTy,splice,lenE,appendE,sliceE,boundE,indexAddrE,indexE,buildE,fillE,buildSliceE,partsE,builtinE,minE,minI,convE,convHE,appendNE,capE,D.x,id_eq,eq_self,if_true,if_false,ne_eq,implies_true,Nat.reduceAdd,Nat.reduceMul,Nat.reduceSub,Nat.reduceEqDiff,Nat.reduceLT,Nat.reduceLeDiff,reduceCtorEq,Nat.mul_one,Int.mul_one,nO_eq,Int.reduceToNat,oF_eq,Nat.reduceBEq,Bool.true_or,Bool.false_or,Bool.or_false,Z9,Zn,Zi,among2,Int.reduceEq,decide_false,Bool.false_eq_true,false_implies,forall_const,Zp,forall_const,Nat.reduceBEq,Int.reduceEq,bne_self_eq_false,true_and,tyAll]
 all_goals exact k.out):G:=h ⟨k⟩
theorem clone_c (xs:List Int) (h:xs.length≤1000000):ACall Tryz.prog 83 [] [SB xs] (SB xs) []:=by
 refine Ac Tryz.func83 ?_
 repeat' (first|((fail_if_success clear hK);change AWp _ _ _ _ _ _;first|refine AWp.seq ?_|refine AWp.text (own:=nO) tG_ok (by kernel_rfl) (fun K hK=>?_)|refine AWp.draw (own:=nO) tG_ok mixed (by kernel_rfl) (by kernel_rfl) (fun K hK=>?_)|refine AWp.skip ?_|refine AWp.ret ?_|refine AWp.exit ?_|refine AWp.label ?_|refine AWp.block ?_)|(revert hK;intro hK;first|(with_reducible refine hK _ _ _ ?_;clear hK K)|(with_reducible refine hK _ _ _ ?_ ?_;(focus kernel_rfl);clear hK K)|((with_reducible change CallS _ _ _ _ _ _);(fail))|(with_reducible refine And.intro ?_ ?_)|((first|exact zDT11 trivial|refine zDT11 ?_))|(first|omega|(intro hq;(try simp only[Za,ne_eq,Bool.not_not,Bool.and_true]at hq);first|omega|assumption|(simp_all;done))|(simp_all;done))|(intro (bn:Bool) hbn)))
 refine Cc ?_ ?_<;>intro hc<;>(try simp only[Za,ne_eq]at hc)
 ·repeat' (first|((fail_if_success clear hK);change AWp _ _ _ _ _ _;first|refine AWp.seq ?_|refine AWp.text (own:=nO) tG_ok (by kernel_rfl) (fun K hK=>?_)|refine AWp.draw (own:=nO) tG_ok mixed (by kernel_rfl) (by kernel_rfl) (fun K hK=>?_)|refine AWp.skip ?_|refine AWp.ret ?_|refine AWp.exit ?_|refine AWp.label ?_|refine AWp.block ?_)|(revert hK;intro hK;first|(with_reducible refine hK _ _ _ ?_;clear hK K)|(with_reducible refine hK _ _ _ ?_ ?_;(focus kernel_rfl);clear hK K)|((with_reducible change CallS _ _ _ _ _ _);(fail))|(with_reducible refine And.intro ?_ ?_)|((first|exact zDT11 trivial|refine zDT11 ?_))|(first|omega|(intro hq;(try simp only[Za,ne_eq,Bool.not_not,Bool.and_true]at hq);first|omega|assumption|(simp_all;done))|(simp_all;done))|(intro (bn:Bool) hbn)))
  subst hc
  have e:xs=[]:=by simpa using hbn rfl
  subst e
  first|exact Fn @Tryz.results83 qDT11.1 trivial|refine Fn @Tryz.results83 qDT11.1 ?_
 ·repeat' (first|((fail_if_success clear hK);change AWp _ _ _ _ _ _;first|refine AWp.seq ?_|refine AWp.text (own:=nO) tG_ok (by kernel_rfl) (fun K hK=>?_)|refine AWp.draw (own:=nO) tG_ok mixed (by kernel_rfl) (by kernel_rfl) (fun K hK=>?_)|refine AWp.skip ?_|refine AWp.ret ?_|refine AWp.exit ?_|refine AWp.label ?_|refine AWp.block ?_)|(revert hK;intro hK;first|(with_reducible refine hK _ _ _ ?_;clear hK K)|(with_reducible refine hK _ _ _ ?_ ?_;(focus kernel_rfl);clear hK K)|((with_reducible change CallS _ _ _ _ _ _);(fail))|(with_reducible refine And.intro ?_ ?_)|((first|exact zDT11 trivial|refine zDT11 ?_))|(first|omega|(intro hq;(try simp only[Za,ne_eq,Bool.not_not,Bool.and_true]at hq);first|omega|assumption|(simp_all;done))|(simp_all;done))|(intro (bn:Bool) hbn)))
  first|exact Fn @Tryz.results83 qDT11.1 trivial|refine Fn @Tryz.results83 qDT11.1 ?_
end ND
namespace ND
abbrev NxD (r:List Int) (n e:Int):D:=.t [.c (.v (sB r)),.c (.v (.x (.int .i64 n))),.c (.v (.x (.int .i64 e)))]
def nextL (b:List Int):Int:=b.getD 0 0*256+b.getD 1 0
def nextR (b:List Int):List Int:=(b.take (6+nextL b).toNat).drop 6
theorem nextR_eq (b:List Int):(b.take (6+nextL b).toNat).drop 6=nextR b:=rfl
theorem take_u8 (b:List Int) (i:Nat):(b.map fun n=>[V.x (.int .u8 n)]).take i=(b.take i).map fun n=>[V.x (.int .u8 n)]:=List.map_take.symm
theorem drop_u8 (b:List Int) (i:Nat):(b.map fun n=>[V.x (.int .u8 n)]).drop i=(b.drop i).map fun n=>[V.x (.int .u8 n)]:=List.map_drop.symm
def asm4 (b:List Int):BitVec 32:=(BitVec.ofInt 32 (b.getD 2 0) <<< 24) ||| (BitVec.ofInt 32 (b.getD 3 0) <<< 16) ||| (BitVec.ofInt 32 (b.getD 4 0) <<< 8) ||| BitVec.ofInt 32 (b.getD 5 0)
theorem or_nat (x y:Nat) (hx:x≤255) (hy:y≤255):(x <<< 8) ||| y=x*256+y:=by
 rw[←Nat.shiftLeft_add_eq_or_of_lt (by omega:y<2 ^ 8) x,Nat.shiftLeft_eq]
theorem or_len (b:List Int) (h0:0≤b.getD 0 0∧b.getD 0 0≤255) (h1:0≤b.getD 1 0∧b.getD 1 0≤255) :
 IntKind.i64.wrap ((BitVec.ofInt IntKind.i64.bits (IntKind.i64.wrap (b.getD 0 0*2 ^ min 8 IntKind.i64.bits)) ||| BitVec.ofInt IntKind.i64.bits (b.getD 1 0)).toNat:Int)=nextL b:=by
 unfold nextL
 generalize b.getD 0 0=x at h0 ⊢
 generalize b.getD 1 0=y at h1 ⊢
 obtain ⟨x,rfl⟩:∃n:Nat,x=n:=⟨x.toNat,by omega⟩
 obtain ⟨y,rfl⟩:∃n:Nat,y=n:=⟨y.toNat,by omega⟩
 have e:(2:Int) ^ (min 8 IntKind.i64.bits)=256:=by decide
 rw[e,Zn ((x:Int)*256) (by omega) (by omega)]
 have a:(BitVec.ofInt IntKind.i64.bits ((x:Int)*256)).toNat=x*256:=by
  rw[show (x:Int)*256=((x*256:Nat):Int) by omega,BitVec.ofInt_natCast,BitVec.toNat_ofNat]
  exact Nat.mod_eq_of_lt (by show x*256<18446744073709551616;omega)
 have c:(BitVec.ofInt IntKind.i64.bits (y:Int)).toNat=y:=by
  rw[BitVec.ofInt_natCast,BitVec.toNat_ofNat]
  exact Nat.mod_eq_of_lt (by show y<18446744073709551616;omega)
 rw[BitVec.toNat_or,a,c]
 have:=or_nat x y (by omega) (by omega)
 rw[Nat.shiftLeft_eq,show (2:Nat) ^ 8=256 from rfl]at this
 rw[this,Zn _ (by omega) (by omega)]
 omega
theorem bv_shl (k:Nat) (a:BitVec 32) (hk:k≤32):IntKind.u32.wrap ((a.toNat:Int)*2 ^ (min k IntKind.u32.bits))=((a <<< k).toNat:Int):=by
 rw[show min k IntKind.u32.bits=k from Nat.min_eq_left hk]
 simp only[IntKind.wrap,IntKind.bits,IntKind.signed,BitVec.toNat_shiftLeft,Nat.shiftLeft_eq]
 simp
theorem bv_shl24 (a:BitVec 32):IntKind.u32.wrap ((a.toNat:Int)*2 ^ (min 24 IntKind.u32.bits))=((a <<< 24).toNat:Int):=bv_shl 24 a (by omega)
theorem bv_shl16 (a:BitVec 32):IntKind.u32.wrap ((a.toNat:Int)*2 ^ (min 16 IntKind.u32.bits))=((a <<< 16).toNat:Int):=bv_shl 16 a (by omega)
theorem bv_shl8 (a:BitVec 32):IntKind.u32.wrap ((a.toNat:Int)*2 ^ (min 8 IntKind.u32.bits))=((a <<< 8).toNat:Int):=bv_shl 8 a (by omega)
theorem bv_or (a b:BitVec 32):IntKind.u32.wrap ((BitVec.ofInt IntKind.u32.bits (a.toNat:Int) ||| BitVec.ofInt IntKind.u32.bits (b.toNat:Int)).toNat:Int)=((a ||| b).toNat:Int):=by
 have e:BitVec.ofInt 32 (a.toNat:Int) ||| BitVec.ofInt 32 (b.toNat:Int)=a ||| b:=by rw[Yy,Yy]
 exact (congrArg (fun x:BitVec 32=>IntKind.u32.wrap ((x.toNat:Nat):Int)) e).trans (wrap_bv _)
theorem zDC83 {R G:Prop} (k:R) (h:Box R→G:=by
 intro k
 simp (disch:=omega) only[↓reduceIte,Zx,Nat.reduceEqDiff,Nat.reduceAdd,if_true,if_false,reduceCtorEq,eq_self,Nat.reduceBEq,Nat.mul_one,Int.mul_one,nO_eq,oF_eq,Nat.reduceBEq,Bool.true_or,Bool.false_or,Bool.or_false,Z9,Int.reduceEq,decide_false,Bool.false_eq_true,false_implies,forall_const,Bool.not_true,Bool.not_false,BEq.rfl,Int.reduceToNat,getD_rB,take_u8,drop_u8,nextR_eq,List.take_length,or_len,cv32,bv_shl24,bv_shl16,bv_shl8,bv_or,bv_eq,Zn,tl3,tl5,tl24,tl246,tl157,tl38]
 all_goals exact k.out):G:=h ⟨k⟩
theorem zDC82 {R G:Prop} (k:R) (h:Box R→G:=by
 intro k
 change Fin _ _ _ _ _ _;simp only[fe_all,id_eq,Nat.reduceLeDiff,↓reduceIte,Zx,Nat.reduceEqDiff,Nat.reduceAdd,if_true,if_false,reduceCtorEq,eq_self,Nat.reduceBEq,Tryz.results243,tl3,tl5,tl24,tl246,tl157,tl38]
 all_goals exact k.out):G:=h ⟨k⟩
theorem zDC81 {R G:Prop} (k:R) (h:Box R→G:=by
 intro k
 repeat' (first|((fail_if_success clear hK);change AWp _ _ _ _ _ _;first|refine AWp.seq ?_|refine AWp.text (own:=nO) tG_ok (by kernel_rfl) (fun K hK=>?_)|refine AWp.draw (own:=nO) tG_ok mixed (by kernel_rfl) (by kernel_rfl) (fun K hK=>?_)|refine AWp.skip ?_|refine AWp.ret ?_|refine AWp.exit ?_|refine AWp.label ?_|refine AWp.block ?_)|(revert hK;intro hK;first|(with_reducible refine hK _ _ _ ?_;clear hK K)|(with_reducible refine hK _ _ _ ?_ ?_;(focus kernel_rfl);clear hK K)|((with_reducible change CallS _ _ _ _ _ _);(first|refine CallS.of (sum2_c (b.take 2) (nextR b) (by simp only[List.length_take];omega) (by simp only[nextR,List.length_take,List.length_drop];omega)) ?_|refine CallS.of (clone_c (nextR b) (by simp only[nextR,List.length_take,List.length_drop];omega)) ?_))|(with_reducible refine And.intro ?_ ?_)|(simp (disch:=omega) only[↓reduceIte,Zo,backT,pos,idsB,idsC,nodup,live,makeSliceE,viewE,viewFE,appendUE,appendFE,capFE,copyE,copySrc,clearE,guardB,isNilOp,nilS,withTy,splice,lenE,appendE,sliceE,boundE,indexAddrE,indexE,buildE,fillE,buildSliceE,partsE,builtinE,minE,minI,convE,convHE,appendNE,capE,D.x,id_eq,eq_self,if_true,if_false,ne_eq,implies_true,Nat.reduceAdd,Nat.reduceMul,Nat.reduceSub,Nat.reduceEqDiff,Nat.reduceLT,Nat.reduceLeDiff,reduceCtorEq,Nat.mul_one,Int.mul_one,nO_eq,oF_eq,Nat.reduceBEq,Bool.true_or,Bool.false_or,Bool.or_false,Z9,Int.reduceEq,decide_false,Bool.false_eq_true,false_implies,forall_const,Bool.not_true,Bool.not_false,BEq.rfl,Int.reduceToNat,getD_rB,take_u8,drop_u8,nextR_eq,List.take_length,or_len,cv32,bv_shl24,bv_shl16,bv_shl8,bv_or,bv_eq,Zn,true_and,tl3,tl5,tl24,tl246,tl157,tl38])|(first|omega|(intro hq;(try simp only[Za,ne_eq,Bool.not_not,Bool.and_true]at hq);first|omega|assumption|(simp_all;done))|(simp_all;done))|(intro (bn:Bool) hbn)))
 all_goals exact k.out):G:=h ⟨k⟩
theorem nextShort_c (b:List Int) (h:b.length<6):ACall Tryz.prog 243 [] [SB b] (NxD [] 0 2) []:=by
 refine Ac Tryz.func243 ?_
 refine zDC81 ?_
 refine Cc ?_ ?_<;>intro hc<;>(try simp only[Za,ne_eq]at hc)
 ·refine zDC81 ?_
  refine zDC82 ?_;refine ⟨[],[],[],by kernel_rfl,?_,?_⟩<;>((first|exact zDC83 trivial|refine zDC83 ?_);try omega)
 ·omega
theorem nextForm_c (b:List Int) (hb:Byt b) (h:6≤b.length) (hn:nextL b<1∨4096<nextL b):ACall Tryz.prog 243 [] [SB b] (NxD [] 0 3) []:=by
 refine Ac Tryz.func243 ?_
 refine zDC81 ?_
 refine Cc ?_ ?_<;>intro hc<;>(try simp only[Za,ne_eq]at hc)
 ·omega
 ·have h0:=hb 0
  have h1:=hb 1
  refine zDC81 ?_
  refine Cc ?_ ?_<;>intro hc<;>(try simp only[Za,ne_eq]at hc)
  ·refine zDC81 ?_
   refine zDC82 ?_;refine ⟨[],[],[],by kernel_rfl,?_,?_⟩<;>((first|exact zDC83 trivial|refine zDC83 ?_);try omega)
  ·omega
theorem nextShort2_c (b:List Int) (hb:Byt b) (h:6≤b.length) (hn:1≤nextL b) (hm:nextL b≤4096) (hl:b.length<6+nextL b):ACall Tryz.prog 243 [] [SB b] (NxD [] 0 2) []:=by
 refine Ac Tryz.func243 ?_
 refine zDC81 ?_
 refine Cc ?_ ?_<;>intro hc<;>(try simp only[Za,ne_eq]at hc)
 ·omega
 ·have h0:=hb 0
  have h1:=hb 1
  refine zDC81 ?_
  refine Cc ?_ ?_<;>intro hc<;>(try simp only[Za,ne_eq]at hc)
  ·omega
  ·refine zDC81 ?_
   refine Cc ?_ ?_<;>intro hc<;>(try simp only[Za,ne_eq]at hc)
   ·refine zDC81 ?_
    refine zDC82 ?_;refine ⟨[],[],[],by kernel_rfl,?_,?_⟩<;>((first|exact zDC83 trivial|refine zDC83 ?_);try omega)
   ·omega
theorem nextOk_c (b:List Int) (hb:Byt b) (h:6≤b.length) (hn:1≤nextL b) (hm:nextL b≤4096) (hl:6+nextL b≤b.length) (hs:crcS (b.take 2++nextR b)=asm4 b) (hlen:b.length≤4611686018427387904):ACall Tryz.prog 243 [] [SB b] (NxD (nextR b) (6+nextL b) 0) []:=by
 refine Ac Tryz.func243 ?_
 refine zDC81 ?_
 refine Cc ?_ ?_<;>intro hc<;>(try simp only[Za,ne_eq]at hc)
 ·omega
 ·have h0:=hb 0
  have h1:=hb 1
  refine zDC81 ?_
  refine Cc ?_ ?_<;>intro hc<;>(try simp only[Za,ne_eq]at hc)
  ·omega
  ·refine zDC81 ?_
   refine Cc ?_ ?_<;>intro hc<;>(try simp only[Za,ne_eq]at hc)
   ·omega
   ·refine zDC81 ?_
    refine Cc ?_ ?_<;>intro hc<;>(try simp only[Za,ne_eq]at hc)
    ·exact absurd (congrArg (fun x:BitVec 32=>((x.toNat:Nat):Int)) hs) hc
    ·refine zDC81 ?_
     refine zDC82 ?_;refine ⟨[],[],[],by kernel_rfl,?_,?_⟩<;>((first|exact zDC83 trivial|refine zDC83 ?_);try omega)
theorem nextSum_c (b:List Int) (hb:Byt b) (h:6≤b.length) (hn:1≤nextL b) (hm:nextL b≤4096) (hl:6+nextL b≤b.length) (hs:¬crcS (b.take 2++nextR b)=asm4 b) (hlen:b.length≤4611686018427387904):ACall Tryz.prog 243 [] [SB b] (NxD [] 0 11) []:=by
 refine Ac Tryz.func243 ?_
 refine zDC81 ?_
 refine Cc ?_ ?_<;>intro hc<;>(try simp only[Za,ne_eq]at hc)
 ·omega
 ·have h0:=hb 0
  have h1:=hb 1
  refine zDC81 ?_
  refine Cc ?_ ?_<;>intro hc<;>(try simp only[Za,ne_eq]at hc)
  ·omega
  ·refine zDC81 ?_
   refine Cc ?_ ?_<;>intro hc<;>(try simp only[Za,ne_eq]at hc)
   ·omega
   ·refine zDC81 ?_
    refine Cc ?_ ?_<;>intro hc<;>(try simp only[Za,ne_eq]at hc)
    ·refine zDC81 ?_
     refine zDC82 ?_;refine ⟨[],[],[],by kernel_rfl,?_,?_⟩<;>((first|exact zDC83 trivial|refine zDC83 ?_);try omega)
    ·exact absurd (BitVec.eq_of_toNat_eq (Int.ofNat.inj hc)) hs
def next (b:List Int):List Int×Int×Int :=
 if b.length<6 then ([],0,2) else
 if nextL b<1∨4096<nextL b then ([],0,3) else
 if b.length<6+nextL b then ([],0,2) else
 if crcS (b.take 2++nextR b)=asm4 b then (nextR b,6+nextL b,0) else ([],0,11)
theorem next_c (b r:List Int) (n e:Int) (h:next b=(r,n,e)) (hb:Byt b) (hlen:b.length≤4611686018427387904):ACall Tryz.prog 243 [] [SB b] (NxD r n e) []:=by
 unfold next at h
 by_cases h1:b.length<6
 ·rw[if_pos h1]at h;cases h
  exact nextShort_c b h1
 rw[if_neg h1]at h
 by_cases h2:nextL b<1∨4096<nextL b
 ·rw[if_pos h2]at h;cases h
  exact nextForm_c b hb (by omega) h2
 rw[if_neg h2]at h
 by_cases h3:b.length<6+nextL b
 ·rw[if_pos h3]at h;cases h
  exact nextShort2_c b hb (by omega) (by omega) (by omega) h3
 rw[if_neg h3]at h
 by_cases h4:crcS (b.take 2++nextR b)=asm4 b
 ·rw[if_pos h4]at h;cases h
  exact nextOk_c b hb (by omega) (by omega) (by omega) (by omega) h4 hlen
 ·rw[if_neg h4]at h;cases h
  exact nextSum_c b hb (by omega) (by omega) (by omega) (by omega) h4 hlen
end ND
namespace ND
theorem next_pos (b:List Int) (r:List Int) (n e:Int) (h:next b=(r,n,e)):(e=0→1≤n - 6∧n≤b.length∧n≤4102)∧0≤n∧(e=0∨e=2∨e=3∨e=11):=by
 unfold next at h
 repeat' split at h
 all_goals (cases h;refine ⟨?_,?_,?_⟩<;>omega)
def all (b:List Int):List (List Int)×Nat :=
 if _h:(next b).2.2=0 then
  ((next b).1::(all (b.drop (next b).2.1.toNat)).1,(next b).2.1.toNat+(all (b.drop (next b).2.1.toNat)).2)
 else ([],0)
termination_by b.length
decreasing_by
 all_goals
  have h:=next_pos b (next b).1 (next b).2.1 (next b).2.2 rfl
  have:=h.1 _h
  rw[List.length_drop];omega
theorem all_ok {b r:List Int} {n:Int} (h:next b=(r,n,0)):all b=(r::(all (b.drop n.toNat)).1,n.toNat+(all (b.drop n.toNat)).2):=by
 rw[all];simp only[h,dite_true]
theorem all_no {b r:List Int} {n e:Int} (h:next b=(r,n,e)) (he:e≠0):all b=([],0):=by
 rw[all];simp only[h,he,dite_false]
abbrev rSS (xss:List (List Int)):List (List V):=xss.map fun x=>[sB x]
theorem zDC92 {R G:Prop} (k:R) (h:Box R→G:=by
 intro k
 simp (disch:=omega) only[↓reduceIte,Zx,Nat.reduceEqDiff,Nat.reduceAdd,if_true,if_false,reduceCtorEq,eq_self,Nat.reduceBEq,Nat.mul_one,Int.mul_one,nO_eq,oF_eq,Nat.reduceBEq,Bool.true_or,Bool.false_or,Bool.or_false,Z9,Int.reduceEq,decide_false,Bool.false_eq_true,false_implies,forall_const,Bool.not_true,Bool.not_false,BEq.rfl,Int.reduceToNat,getD_rB,take_u8,drop_u8,Zi,List.take_length,List.map_append,Zn,List.length_append,List.length_singleton,strRows_map,areBytes_map,getD_mapD,bne_self_eq_false,tl3,tl4,tl5,tl9,tl24,tl246,tl157,tl38]
 all_goals exact k.out):G:=h ⟨k⟩
theorem zDC91 {R G:Prop} (k:R) (h:Box R→G:=by
 intro k
 repeat' (first|((fail_if_success clear hK);change AWp _ _ _ _ _ _;first|refine AWp.seq ?_|refine AWp.text (own:=nO) tG_ok (by kernel_rfl) (fun K hK=>?_)|refine AWp.draw (own:=nO) tG_ok mixed (by kernel_rfl) (by kernel_rfl) (fun K hK=>?_)|refine AWp.skip ?_|refine AWp.ret ?_|refine AWp.exit ?_|refine AWp.label ?_|refine AWp.block ?_)|(revert hK;intro hK;first|(with_reducible refine hK _ _ _ ?_;clear hK K)|(with_reducible refine hK _ _ _ ?_ ?_;(focus kernel_rfl);clear hK K)|((with_reducible change CallS _ _ _ _ _ _);(first|refine CallS.of (next_c _ _ _ _ hnx (byt_drop hb p) (by rw[List.length_drop];omega)) ?_))|(with_reducible refine And.intro ?_ ?_)|(simp (disch:=omega) only[↓reduceIte,Zo,backT,pos,idsB,idsC,nodup,live,makeSliceE,viewE,viewFE,appendUE,appendFE,capFE,copyE,copySrc,clearE,guardB,isNilOp,nilS,withTy,splice,lenE,appendE,sliceE,boundE,indexAddrE,indexE,buildE,fillE,buildSliceE,partsE,builtinE,minE,minI,convE,convHE,appendNE,capE,D.x,id_eq,eq_self,if_true,if_false,ne_eq,implies_true,Nat.reduceAdd,Nat.reduceMul,Nat.reduceSub,Nat.reduceEqDiff,Nat.reduceLT,Nat.reduceLeDiff,reduceCtorEq,Nat.mul_one,Int.mul_one,nO_eq,oF_eq,Nat.reduceBEq,Bool.true_or,Bool.false_or,Bool.or_false,Z9,Int.reduceEq,decide_false,Bool.false_eq_true,false_implies,forall_const,Bool.not_true,Bool.not_false,BEq.rfl,Int.reduceToNat,getD_rB,take_u8,drop_u8,Zi,List.take_length,List.map_append,Zn,List.length_append,List.length_singleton,strRows_map,areBytes_map,getD_mapD,bne_self_eq_false,true_and,tl3,tl4,tl5,tl9,tl24,tl246,tl157,tl38])|(first|omega|(intro hq;(try simp only[Za,ne_eq,Bool.not_not,Bool.and_true]at hq);first|omega|assumption|(simp_all;done))|(simp_all;done))|(intro (bn:Bool) hbn)))
 all_goals exact k.out):G:=h ⟨k⟩
theorem all_c (b:List Int) (hb:Byt b) (hlen:b.length≤1000000):ACall Tryz.prog 192 [] [SB b] (.t [.c (.v (.s 1 (rSS (all b).1))),.c (.v (.x (.int .i64 (all b).2)))]) []:=by
 refine Ac Tryz.func192 ?_
 refine zDC91 ?_
 refine AWp.loop (fun s:Nat×List (List Int)=>mkSt [(0,SB b),(4,.e (.c (.o 0 s.2.length))),(5,I s.1)] [(0,.row 1 (rSS s.2))] 1)
  (fun s=>s.1≤b.length∧s.2.length≤s.1∧s.2++(all (b.drop s.1)).1=(all b).1∧s.1+(all (b.drop s.1)).2=(all b).2) (fun s=>b.length - s.1) (0,[]) ⟨Nat.zero_le _,Nat.zero_le _,rfl,Nat.zero_add _⟩ (by refine Le.of (τ:=[]) (ν:=[0]) (by kernel_rfl) ?_ ?_<;>((first|exact zDC92 trivial|refine zDC92 ?_);try rfl)) fun s hs=>?_
 obtain ⟨p,rs⟩:=s
 obtain ⟨hp,hrl,hr,hn⟩:=hs
 dsimp only at hp hrl hr hn ⊢
 obtain ⟨⟨r,n,e⟩,hnx⟩:∃q,next (b.drop p)=q:=⟨_,rfl⟩
 have hq:=next_pos _ _ _ _ hnx
 rw[List.length_drop]at hq
 refine zDC91 ?_
 refine Cc ?_ ?_<;>intro hc<;>(try simp only[Za,ne_eq]at hc)
 ·have he:e≠0:=by intro h0;have:=hq.1 h0;omega
  rw[all_no hnx he,List.append_nil]at hr
  rw[all_no hnx he]at hn
  refine zDC91 ?_
  change Fin _ _ _ _ _ _;simp only[fe_all,id_eq,Nat.reduceLeDiff,↓reduceIte,Zx,Nat.reduceEqDiff,Nat.reduceAdd,if_true,if_false,reduceCtorEq,eq_self,Nat.reduceBEq,Tryz.results192,tl3,tl4,tl5,tl9,tl24,tl246,tl157,tl38];refine ⟨[],[],[],by kernel_rfl,?_,?_⟩<;>((first|exact zDC92 trivial|refine zDC92 ?_);try omega)
  rw[hr]
  exact ⟨rfl,by dsimp only at hn;omega⟩
 ·have he:e=0:=by omega
  subst he
  have hq1:=hq.1 rfl
  rw[all_ok hnx,List.drop_drop]at hr hn
  refine zDC91 ?_
  refine Zb (τ:=ren [(0,1281)]) (ν:=[]) (p+n.toNat,rs++[r]) ⟨by dsimp only;omega,by simp;omega,by dsimp only;rw[List.append_assoc];exact hr,by dsimp only at hn ⊢;omega⟩ (by dsimp only;omega) ?_
  refine Le.of (by kernel_rfl) ?_ ?_<;>((first|exact zDC92 trivial|refine zDC92 ?_);try omega)
end ND
namespace ND
def genL (xs:List Int):Int:=xs.foldl (fun g c=>g*256+c) 0
theorem genL_succ (xs:List Int) (i:Nat) (h:i<xs.length):genL (xs.take (i+1))=genL (xs.take i)*256+xs.getD i 0:=by
 rw[genL,genL,List.take_add_one,List.foldl_append,List.getD_eq_getElem?_getD,List.getElem?_eq_getElem h]
 rfl
theorem genL_rng (xs:List Int) (hb:Byt xs) (i:Nat) (h:i≤xs.length):0≤genL (xs.take i)∧genL (xs.take i)<256 ^ i:=by
 induction i with
 | zero=>simp[genL]
 | succ i ih =>
  have:=ih (by omega)
  have hx:=hb i
  rw[genL_succ xs i (by omega),Int.pow_succ]
  omega
theorem or_nat2 (x y:Nat) (hy:y≤255):(x <<< 8) ||| y=x*256+y:=by
 rw[←Nat.shiftLeft_add_eq_or_of_lt (by omega:y<2 ^ 8) x,Nat.shiftLeft_eq]
theorem or8_u64 (x y:Int) (h0:0≤x) (h1:x<72057594037927936) (hy:0≤y∧y≤255) :
 IntKind.u64.wrap ((BitVec.ofInt IntKind.u64.bits (IntKind.u64.wrap (x*2 ^ min 8 IntKind.u64.bits)) ||| BitVec.ofInt IntKind.u64.bits y).toNat:Int)=x*256+y:=by
 obtain ⟨x,rfl⟩:∃n:Nat,x=n:=⟨x.toNat,by omega⟩
 obtain ⟨y,rfl⟩:∃n:Nat,y=n:=⟨y.toNat,by omega⟩
 have e:(2:Int) ^ (min 8 IntKind.u64.bits)=256:=by decide
 rw[e,wrap_u64 ((x:Int)*256) (by omega) (by omega)]
 have a:(BitVec.ofInt IntKind.u64.bits ((x:Int)*256)).toNat=x*256:=by
  rw[show (x:Int)*256=((x*256:Nat):Int) by omega,BitVec.ofInt_natCast,BitVec.toNat_ofNat]
  exact Nat.mod_eq_of_lt (by show x*256<18446744073709551616;omega)
 have c:(BitVec.ofInt IntKind.u64.bits (y:Int)).toNat=y:=by
  rw[BitVec.ofInt_natCast,BitVec.toNat_ofNat]
  exact Nat.mod_eq_of_lt (by show y<18446744073709551616;omega)
 rw[BitVec.toNat_or,a,c]
 have:=or_nat2 x y (by omega)
 rw[Nat.shiftLeft_eq,show (2:Nat) ^ 8=256 from rfl]at this
 rw[this,wrap_u64 _ (by omega) (by omega)]
 omega
theorem gen_or (xs:List Int) (i:Nat) (h:i<xs.length) (h8:xs.length≤8) (hb:Byt xs) :
 IntKind.u64.wrap ((BitVec.ofInt IntKind.u64.bits (IntKind.u64.wrap (genL (xs.take i)*2 ^ min 8 IntKind.u64.bits)) ||| BitVec.ofInt IntKind.u64.bits (xs.getD i 0)).toNat:Int)=genL (xs.take (i+1)):=by
 have:=genL_rng xs hb i (by omega)
 have hp:(256:Int) ^ i≤256 ^ 7:=by
  have:(256:Nat) ^ i≤256 ^ 7:=Nat.pow_le_pow_right (by omega) (by omega)
  exact_mod_cast this
 have hp:(256:Int) ^ i≤72057594037927936:=hp
 rw[or8_u64 _ _ this.1 (by omega) (hb i),genL_succ xs i h]
def g8 (f:List Int):List Int:=(f.take 9).drop 1
theorem g8F (f:List Int):(f.take 9).drop 1=g8 f:=rfl
theorem g8_len (f:List Int) (h:9≤f.length):(g8 f).length=8:=by rw[g8,List.length_drop,List.length_take];omega
def goodF (f:List Int):Prop:=9≤f.length∧f.getD 0 0=71∧1≤genL (g8 f)∧genL (g8 f)≤4611686018427387904
abbrev cZ:List C:=[.v (vI 0),.v (.x (.slice none 0 0)),.v (.x (.slice none 0 0)),.v (vI 0)]
def qDJ11:=PLift.up (An @getD_rB (An @take_u8 (An @drop_u8 (An @List.getD_nil.{0} (An @g8F (An @wrap_u64 (An @List.length_append.{0} @List.length_singleton.{0})))))))
theorem lookNone0_c (b:List Int) (hb:Byt b) (hlen:b.length≤1000000) (h:(all b).1=[]):ACall Tryz.prog 136 [] [SB b] (.t [.a cZ,.c (.v (.x (.bool false)))]) []:=by
 have hl8:True:=trivial
 have hgen:True:=trivial
 have hall:=all_c b hb hlen
 rw[h]at hall
 refine Ac Tryz.func136 ?_
 refine Wk (An @hgen (An @hl8 qDJ11.1)) @hall ?_
 refine Cc ?_ ?_<;>intro hc<;>(try simp only[Za,ne_eq]at hc)
 ·refine Wk (An @hgen (An @hl8 qDJ11.1)) @hall ?_
  first|exact Fn @Tryz.results136 (An @hgen (An @hl8 qDJ11.1)) trivial|refine Fn @Tryz.results136 (An @hgen (An @hl8 qDJ11.1)) ?_
 ·contradiction
theorem lookNone1_c (b f:List Int) (rest:List (List Int)) (hb:Byt b) (hlen:b.length≤1000000) (h:(all b).1=f::rest) (hf:¬(9≤f.length∧f.getD 0 0=71)):ACall Tryz.prog 136 [] [SB b] (.t [.a cZ,.c (.v (.x (.bool false)))]) []:=by
 have hl8:True:=trivial
 have hgen:True:=trivial
 have hall:=all_c b hb hlen
 rw[h]at hall
 refine Ac Tryz.func136 ?_
 refine Wk (An @hgen (An @hl8 qDJ11.1)) @hall ?_
 refine Cc ?_ ?_<;>intro hc<;>(try simp only[Za,ne_eq]at hc)
 ·refine Wk (An @hgen (An @hl8 qDJ11.1)) @hall ?_
  first|exact Fn @Tryz.results136 (An @hgen (An @hl8 qDJ11.1)) trivial|refine Fn @Tryz.results136 (An @hgen (An @hl8 qDJ11.1)) ?_
 ·omega
abbrev u64C (n:Int):D:=.e (.c (.v (.x (.int .u64 n))))
abbrev lkSt (f:List Int) (rest:List (List Int)) (long:Nat) (i:Nat):St :=
 mkSt [(2,.p 0 0),(4,.e (.c (.v (.s 1 (rSS (f::rest)))))),(5,I long),(6,SB f),(7,u64C (genL ((g8 f).take i))),(38,SB (g8 f)),(39,I 8),(40,I i)] [(0,.loc cZ)] 1
theorem lookBad_c (b f:List Int) (rest:List (List Int)) (hb:Byt b) (hf:Byt f) (hlen:b.length≤1000000) (h:(all b).1=f::rest) (h9:9≤f.length) (h71:f.getD 0 0=71) (hg:genL (g8 f)<1∨4611686018427387904<genL (g8 f)):ACall Tryz.prog 136 [] [SB b] (.t [.a cZ,.c (.v (.x (.bool false)))]) []:=by
 have hgen:True:=trivial
 have hall:=all_c b hb hlen
 rw[h]at hall
 have hl8:=g8_len f h9
 have hB8:Byt (g8 f):=byt_drop (byt_take hf 9) 1
 refine Ac Tryz.func136 ?_
 refine Wk (An @hgen (An @hl8 qDJ11.1)) @hall ?_
 refine Cc ?_ ?_<;>intro hc<;>(try simp only[Za,ne_eq]at hc)
 ·omega
 ·refine Wk (An @hgen (An @hl8 qDJ11.1)) @hall ?_
  refine AWp.loop (lkSt f rest (all b).2) (fun i=>i≤8) (fun i=>8 - i) 0 (Nat.zero_le _) (by refine Le.of (τ:=[]) (ν:=[]) (by kernel_rfl) ?_ ?_<;>((refine Lv (An @hgen (An @hl8 qDJ11.1)) fun eE=>?_;first|exact Lw (@Box.out _ eE) trivial|refine Lw (@Box.out _ eE) ?_);try rfl)) fun i hi=>?_
  refine Wk (An @hgen (An @hl8 qDJ11.1)) @hall ?_
  refine Cc ?_ ?_<;>intro hc<;>(try simp only[Za,ne_eq]at hc)
  ·have hbi:=hB8 i
   have hgen:=gen_or (g8 f) i (by omega) (by omega) hB8
   refine Wk (An @hgen (An @hl8 qDJ11.1)) @hall ?_
   refine Zb (i+1) (by omega) (by omega) (by refine Le.of (τ:=[]) (ν:=[]) (by kernel_rfl) ?_ ?_<;>((refine Lv (An @hgen (An @hl8 qDJ11.1)) fun eE=>?_;first|exact Lw (@Box.out _ eE) trivial|refine Lw (@Box.out _ eE) ?_);try omega))
  ·obtain rfl:i=8:=by omega
   have ht:(g8 f).take 8=g8 f:=List.take_of_length_le (by omega)
   rw[ht]
   refine Wk (An @hgen (An @hl8 qDJ11.1)) @hall ?_
   refine Cc ?_ ?_<;>intro hc<;>(try simp only[Za,ne_eq]at hc)
   ·refine Wk (An @hgen (An @hl8 qDJ11.1)) @hall ?_
    first|exact Fn @Tryz.results136 (An @hgen (An @hl8 qDJ11.1)) trivial|refine Fn @Tryz.results136 (An @hgen (An @hl8 qDJ11.1)) ?_
   ·omega
end ND
namespace ND
theorem getD_set_ne (b:List Int) (k j:Nat) (v:Int) (h:k≠j):(b.set k v).getD j 0=b.getD j 0:=by
 rw[List.getD_eq_getElem?_getD,List.getElem?_set_ne h,←List.getD_eq_getElem?_getD]
end ND
namespace ND
abbrev arrD (s0 t0 s1 t1:List Int):List C:=[.v (sB s0),.v (sB t0),.v (sB s1),.v (sB t1)]
def okD (s0 t0 s1 t1:List Int):Prop:=s0.length+t0.length≤65536∧s1.length+t1.length≤65536
def qDT21:=PLift.up (An @Zi @among2)
theorem right_c (s0 t0 s1 t1:List Int) (h:okD s0 t0 s1 t1):ACall Tryz.prog 135 [] [diskD s0 t0 s1 t1] (B true) []:=by
 have hd1:=h.1
 have hd2:=h.2
 obtain ⟨h0,h1⟩:=h
 refine Ac Tryz.func135 ?_
 refine Wk qDT21.1 trivial ?_
 refine AWp.loop (fun k:Int=>mkSt [(1,.p 0 0),(6,.e (.a (arrD s0 t0 s1 t1))),(7,I k)] [(0,.loc (arrD s0 t0 s1 t1))] 1)
  (fun k=>k=0∨k=1∨k=2) (fun k=>(2 - k).toNat) 0 (.inl rfl) (by refine Le.of (τ:=[]) (ν:=[]) (by kernel_rfl) ?_ ?_<;>((first|exact Lw qDT21.1 trivial|refine Lw qDT21.1 ?_);try omega)) fun k hk=>?_
 rcases hk with rfl|rfl|rfl
 ·refine Wk qDT21.1 trivial ?_
  refine Cc ?_ ?_<;>intro hc<;>(try simp only[Za,ne_eq]at hc)
  ·refine Wk qDT21.1 trivial ?_
   refine Cc ?_ ?_<;>intro hc<;>(try simp only[Za,ne_eq]at hc)
   ·omega
   ·refine Wk qDT21.1 trivial ?_
    refine Zb 1 (.inr (.inl rfl)) (by omega) (by refine Le.of (τ:=[]) (ν:=[]) (by kernel_rfl) ?_ ?_<;>((first|exact Lw qDT21.1 trivial|refine Lw qDT21.1 ?_);try omega))
  ·omega
 ·refine Wk qDT21.1 trivial ?_
  refine Cc ?_ ?_<;>intro hc<;>(try simp only[Za,ne_eq]at hc)
  ·refine Wk qDT21.1 trivial ?_
   refine Cc ?_ ?_<;>intro hc<;>(try simp only[Za,ne_eq]at hc)
   ·omega
   ·refine Wk qDT21.1 trivial ?_
    refine Zb 2 (.inr (.inr rfl)) (by omega) (by refine Le.of (τ:=[]) (ν:=[]) (by kernel_rfl) ?_ ?_<;>((first|exact Lw qDT21.1 trivial|refine Lw qDT21.1 ?_);try omega))
  ·omega
 ·refine Wk qDT21.1 trivial ?_
  refine Cc ?_ ?_<;>intro hc<;>(try simp only[Za,ne_eq]at hc)
  ·omega
  ·refine Wk qDT21.1 trivial ?_
   first|exact Fn @Tryz.results135 qDT21.1 trivial|refine Fn @Tryz.results135 qDT21.1 ?_
abbrev nilC:C:=.v (.x (.slice none 0 0))
theorem own_c (s0 t0 s1 t1:List Int) (h0:s0.length≤65536) (h1:t0.length≤65536) (h2:s1.length≤65536) (h3:t1.length≤65536):ACall Tryz.prog 154 [] [diskD s0 t0 s1 t1] (diskD s0 t0 s1 t1) []:=by
 refine Ac Tryz.func154 ?_
 refine Wk qDT21.1 @clone_c ?_
 refine AWp.loop (τ:=ren [(1,64)]) (fun k:Int=>mkSt [(1,.p 0 0),(2,.p 1 0),(6,.e (.a (arrD s0 t0 s1 t1))),(7,I k)] [(0,.loc (arrD s0 t0 s1 t1)),(1,.loc [nilC,nilC,nilC,nilC])] 2)
  (fun k=>k=0∨k=1∨k=2) (fun k=>(2 - k).toNat) 0 (.inl rfl) (by refine Le.of (ν:=[]) (by kernel_rfl) ?_ ?_<;>(first|exact Lw qDT21.1 trivial|refine Lw qDT21.1 ?_)) fun k hk=>?_
 rcases hk with rfl|rfl|rfl
 ·refine Wk qDT21.1 @clone_c ?_
  refine Cc ?_ ?_<;>intro hc<;>(try simp only[Za,ne_eq]at hc)
  ·refine Wk qDT21.1 @clone_c ?_
   refine Zb 1 (.inr (.inl rfl)) (by omega) (by refine Le.of (τ:=[]) (ν:=[]) (by kernel_rfl) ?_ ?_<;>((first|exact Lw qDT21.1 trivial|refine Lw qDT21.1 ?_);try omega))
  ·omega
 ·refine Wk qDT21.1 @clone_c ?_
  refine Cc ?_ ?_<;>intro hc<;>(try simp only[Za,ne_eq]at hc)
  ·refine Wk qDT21.1 @clone_c ?_
   refine Zb 2 (.inr (.inr rfl)) (by omega) (by refine Le.of (τ:=[]) (ν:=[]) (by kernel_rfl) ?_ ?_<;>((first|exact Lw qDT21.1 trivial|refine Lw qDT21.1 ?_);try omega))
  ·omega
 ·refine Wk qDT21.1 @clone_c ?_
  refine Cc ?_ ?_<;>intro hc<;>(try simp only[Za,ne_eq]at hc)
  ·omega
  ·refine Wk qDT21.1 @clone_c ?_
   first|exact Fn @Tryz.results154 qDT21.1 trivial|refine Fn @Tryz.results154 qDT21.1 ?_
end ND
namespace ND
abbrev nilD:D:=.e (.c (.v (.x (.slice none 0 0))))
def qDT31:=PLift.up (An @Zi (An @among2 (An @getD_mapD (An @tot_zero (An @Int.sub_zero (An @Int.sub_self @List.length_replicate.{0}))))))
theorem grow_c (n:Nat) (h:n≤1000000):ACall Tryz.prog 206 [] [nilD,I n] (.e (.c (.o 0 0))) [.row 1 (List.replicate n [V.x (.int .u8 0)])]:=by
 refine Ac Tryz.func206 ?_
 refine Wk qDT31.1 trivial ?_
 refine Cc ?_ ?_<;>intro hc<;>(try simp only[Za,ne_eq]at hc)
 ·omega
 ·refine Wk qDT31.1 trivial ?_
  refine Cc ?_ ?_<;>intro hc<;>(try simp only[Za,ne_eq]at hc)
  ·refine Wk qDT31.1 trivial ?_
   refine Fs @Tryz.results206 ?_
   refine ⟨[1152],[(0,1152)],[],by kernel_rfl,?_,?_⟩<;>((first|exact Lw qDT31.1 trivial|refine Lw qDT31.1 ?_);try omega)
  ·refine Wk qDT31.1 trivial ?_
   have e:n=0:=by omega
   subst e
   refine Fs @Tryz.results206 ?_
   refine ⟨[],[],[0],by kernel_rfl,?_,?_⟩<;>((first|exact Lw qDT31.1 trivial|refine Lw qDT31.1 ?_);try rfl)
theorem concat_c (xss:List (List Int)) (h:xss.flatten.length≤1000000) (hl:xss.length≤1000):ACall Tryz.prog 156 [] [SS xss] (SB xss.flatten) []:=by
 refine Ac Tryz.func156 ?_
 refine Wk qDT31.1 trivial ?_
 refine AWp.loop (fun k:Nat=>mkSt [(0,SS xss),(3,I (tot xss k)),(9,SS xss),(10,I xss.length),(11,I k)] [] 0) (fun k=>k≤xss.length) (fun k=>xss.length - k) 0 (Nat.zero_le _) (by refine Le.of (τ:=[]) (ν:=[]) (by kernel_rfl) ?_ ?_<;>((first|exact Lw qDT31.1 trivial|refine Lw qDT31.1 ?_);try rfl)) fun k hk=>?_
 have ha:=tot_all xss
 refine Wk qDT31.1 (grow_c (tot xss xss.length)) ?_
 refine Cc ?_ ?_<;>intro hc<;>(try simp only[Za,ne_eq]at hc)
 ·have ht:=tot_succ xss k (by omega)
  have hle:=tot_le xss (k+1)
  refine Wk qDT31.1 (grow_c (tot xss xss.length)) ?_
  refine Cc ?_ ?_<;>intro hc<;>(try simp only[Za,ne_eq]at hc)
  ·omega
  ·refine Wk qDT31.1 (grow_c (tot xss xss.length)) ?_
   refine Zb (k+1) (by omega) (by omega) (by refine Le.of (τ:=[]) (ν:=[]) (by kernel_rfl) ?_ ?_<;>((first|exact Lw qDT31.1 trivial|refine Lw qDT31.1 ?_);try omega))
 ·obtain rfl:k=xss.length:=by omega
  refine Wk qDT31.1 (grow_c (tot xss xss.length)) ?_
  refine AWp.loop (τ:=ren [(0,128)]) (fun b:Nat×List (List V)=>mkSt [(6,.e (.c (.o 0 (tot xss b.1)))),(25,SS xss),(26,I xss.length),(27,I b.1)] [(0,.row 1 b.2)] 1)
   (fun b=>b.1≤xss.length∧b.2.take (tot xss b.1)=((xss.take b.1).flatten).map (fun n=>[V.x (.int .u8 n)])∧tot xss b.1≤b.2.length) (fun b=>xss.length - b.1) (0,List.replicate (tot xss xss.length) [V.x (.int .u8 0)]) ⟨Nat.zero_le _,rfl,Nat.zero_le _⟩
   (by refine Le.of (ν:=[]) (by kernel_rfl) ?_ ?_<;>((first|exact Lw qDT31.1 trivial|refine Lw qDT31.1 ?_);try rfl)) fun b hb=>?_
  obtain ⟨k,rows⟩:=b
  obtain ⟨hk,hr,hn⟩:=hb
  dsimp only at hk hr hn ⊢
  refine Wk qDT31.1 (grow_c (tot xss xss.length)) ?_
  refine Cc ?_ ?_<;>intro hc<;>(try simp only[Za,ne_eq]at hc)
  ·have ht:=tot_succ xss k (by omega)
   have hle:=tot_le xss (k+1)
   refine Wk qDT31.1 (grow_c (tot xss xss.length)) ?_
   refine Zb (τ:=ren [(0,385)]) (ν:=[]) (k+1,rows.take (tot xss k)++(xss.getD k default).map (fun n=>[V.x (.int .u8 n)])) ⟨by dsimp only;omega,?_,?_⟩ (by dsimp only;omega) ?_
   ·dsimp only
    rw[ht,hr,take_succ_flat xss k (by omega),List.map_append]
    exact List.take_of_length_le (by rw[List.length_append,tot_map,List.length_map];exact Nat.le_refl _)
   ·dsimp only
    rw[ht,hr,List.length_append,tot_map,List.length_map];exact Nat.le_refl _
   ·refine Le.of (by kernel_rfl) ?_ ?_<;>((first|exact Lw qDT31.1 trivial|refine Lw qDT31.1 ?_);try omega)
  ·obtain rfl:k=xss.length:=by omega
   refine Wk qDT31.1 (grow_c (tot xss xss.length)) ?_
   first|exact Fn @Tryz.results156 qDT31.1 trivial|refine Fn @Tryz.results156 qDT31.1 ?_
   rw[hr,List.take_length]
   exact ⟨rfl,hn⟩
end ND
end Eng
end Go.Proofs.YtgenjpingdkmgaaGreatDoor
