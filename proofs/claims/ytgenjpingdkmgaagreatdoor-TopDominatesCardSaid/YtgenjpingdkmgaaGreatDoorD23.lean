/- Contracts of functions that this seat's law calls. No condition. -/
import Derived.Test.YtgenjpingdkmgaaGreatDoorD16
set_option maxRecDepth 100000
set_option linter.unusedSimpArgs false
set_option linter.unusedVariables false
open Go.Proofs.Tryz
namespace Go.Proofs.YtgenjpingdkmgaaGreatDoor
namespace Eng
namespace NA
structure Pos where
 acc:ByteArray
 sym:ByteArray
 qty:Int
 value:Int
 over:Bool
deriving DecidableEq
instance :Inhabited Pos:=⟨⟨⟨#[]⟩,⟨#[]⟩,0,0,false⟩⟩
abbrev pD (x:Pos):D:=.e (.a [.v (.x (.string x.acc)),.v (.x (.string x.sym)),.v (.x (.int .i64 x.qty)),.v (.x (.int .i64 x.value)),.v (.x (.bool x.over))])
abbrev pR (l:List Pos):List (List V):=l.map fun x=>[V.x (.string x.acc),V.x (.string x.sym),V.x (.int .i64 x.qty),V.x (.int .i64 x.value),V.x (.bool x.over)]
abbrev psD (l:List Pos):D:=.e (.c (.v (.s 5 (pR l))))
theorem getD_pR (l:List Pos) (i:Nat):(l.map fun x=>[V.x (.string x.acc),V.x (.string x.sym),V.x (.int .i64 x.qty),V.x (.int .i64 x.value),V.x (.bool x.over)]).getD i [V.x (.string ⟨#[]⟩),V.x (.string ⟨#[]⟩),V.x (.int .i64 0),V.x (.int .i64 0),V.x (.bool false)] =
 [V.x (.string (l.getD i default).acc),V.x (.string (l.getD i default).sym),V.x (.int .i64 (l.getD i default).qty),V.x (.int .i64 (l.getD i default).value),V.x (.bool (l.getD i default).over)]:=by
 simp only[List.getD_eq_getElem?_getD,List.getElem?_map];cases l[i]?<;>rfl
def cmpP (a b:Pos):Int:=if cmpS a.acc b.acc≠0 then cmpS a.acc b.acc else cmpS a.sym b.sym
def orS:List Int->Int
 | []=>0
 | n::l=>if n≠0 then n else orS l
def qAQ11:=PLift.up (An @getD_rI (An @getD_pR (An @List.getD_cons_zero.{0} @List.getD_cons_succ.{0})))
theorem or_g (l:List Int) (hl:l.length<=1000000):ACall prog 38 [] [.e (.c (.v (.s 1 (l.map fun n=>[V.x (.int .i64 n)]))))] (I (orS l)) []:=by
 have hq2:True:=trivial;have hq3:True:=trivial;have hq1:True:=trivial;obtain ⟨r,hr⟩:∃r,orS l=r:=⟨_,rfl⟩
 rw[hr];refine Ac func38 ?_;refine Wk (An @hq1 (An @hq2 (An @hq3 qAQ11.1))) @cmpS_c ?_;refine AWp.loop (τ:=ren []) (fun k:Nat=>mkSt [(6,.e (.c (.v (.s 1 (l.map fun n=>[V.x (.int .i64 n)]))))),(2,I 0),(3,I 0),(7,I l.length),(8,I k)] [] 0) (fun k=>k<=l.length/\orS (l.drop k)=r) (fun k=>l.length - k) 0 ⟨Nat.zero_le _,hr⟩ (by refine Le.of (τ:=[]) (ν:=[]) (by kernel_rfl) ?_ ?_<;>((refine Lw (An @hq1 (An @hq2 (An @hq3 qAQ11.1))) ?_;try exact ⟨⟩);try omega)) fun k hk=>?_;obtain ⟨hk,hr2⟩:=hk;by_cases hkl:k<l.length
 .obtain ⟨x,hx⟩:∃x,l.getD k 0=x:=⟨_,rfl⟩
  have hq1:=hx
  have hd:l.drop k=x::l.drop (k+1):=by
   rw[<-hx,List.getD_eq_getElem?_getD,List.getElem?_eq_getElem hkl];exact List.drop_eq_getElem_cons hkl
  rw[hd]at hr2;refine Wk (An @hq1 (An @hq2 (An @hq3 qAQ11.1))) @cmpS_c ?_;refine Cb ?_ ?_<;>intro hc<;>(try exact ⟨⟩)
  .refine Wk (An @hq1 (An @hq2 (An @hq3 qAQ11.1))) @cmpS_c ?_;refine Cb ?_ ?_<;>intro hc<;>(try exact ⟨⟩)
   .have e:x=r:=by rw[<-hr2];show x=if x≠0 then x else _;rw[if_pos hc]
    subst e;refine Wk (An @hq1 (An @hq2 (An @hq3 qAQ11.1))) @cmpS_c ?_;refine Fn @results38 (An @hq1 (An @hq2 (An @hq3 qAQ11.1))) ?_;try exact ⟨⟩
   .refine Wk (An @hq1 (An @hq2 (An @hq3 qAQ11.1))) @cmpS_c ?_;refine Za (τ:=ren []) (ν:=[]) (k+1) ⟨hkl,by rw[<-hr2];show _=if x≠0 then x else _;rw[if_neg (fun h=>h hc)]⟩ (by omega) ?_;refine Le.of (by kernel_rfl) ?_ ?_<;>((refine Lw (An @hq1 (An @hq2 (An @hq3 qAQ11.1))) ?_;try exact ⟨⟩);try omega)
  .omega
 .obtain rfl:k=l.length:=by omega
  rw[List.drop_length]at hr2;have e:r=0:=hr2.symm;subst e;refine Wk (An @hq1 (An @hq2 (An @hq3 qAQ11.1))) @cmpS_c ?_;refine Cb ?_ ?_<;>intro hc<;>(try exact ⟨⟩)
  .omega
  .refine Wk (An @hq1 (An @hq2 (An @hq3 qAQ11.1))) @cmpS_c ?_;refine Fn @results38 (An @hq1 (An @hq2 (An @hq3 qAQ11.1))) ?_;try exact ⟨⟩
theorem or_c (a b:Int):ACall prog 38 [] [.e (.c (.v (.s 1 [[V.x (.int .i64 a)],[V.x (.int .i64 b)]])))] (I (if a≠0 then a else b)) []:=by
 have h:=or_g [a,b] (by simp)
 have e:orS [a,b]=if a≠0 then a else b:=by
  show (if a≠0 then a else if b≠0 then b else 0)=_;by_cases hb:b≠0
  .rw[if_pos hb]
  .rw[if_neg hb,show b=0 by omega]
 rw[e]at h;exact h
theorem Zd (a b:Pos):ACall prog 43 [] [pD a,pD b] (I (cmpP a b)) []:=by
 have hq1:True:=trivial;have hq2:True:=trivial;have hq3:True:=trivial;have hor:=or_c (cmpS a.acc b.acc) (cmpS a.sym b.sym);refine Ac func43 ?_;refine Wk (An @hq1 (An @hq2 (An @hq3 qAQ11.1))) (An @hor @cmpS_c) ?_;refine Fn @results43 (An @hq1 (An @hq2 (An @hq3 qAQ11.1))) ?_;try exact ⟨⟩
 rfl
theorem cmpP_eq {a b:Pos}:cmpP a b=0↔a.acc=b.acc/\a.sym=b.sym:=by
 unfold cmpP;by_cases h:cmpS a.acc b.acc=0
 .rw[if_neg (fun x=>x h),Z7,<-Z7 (a:=a.acc)];exact ⟨fun x=>⟨h,x⟩,fun x=>x.2⟩
 .rw[if_pos h];exact ⟨fun x=>absurd x h,fun x=>absurd (Z7.2 x.1) h⟩
theorem Yu (b a:Pos):cmpP b a=- cmpP a b:=by
 unfold cmpP;rcases cmpS_cases a.acc b.acc with ⟨h1,h2⟩|⟨h1,h2⟩|⟨h1,h2⟩
 .rw[if_pos (by omega),if_pos (by omega)];omega
 .have h3:cmpS b.acc a.acc=0:=Z7.2 h2.symm;rw[if_neg (by omega),if_neg (by omega)];rcases cmpS_cases a.sym b.sym with ⟨h1,h2⟩|⟨h1,h2⟩|⟨h1,h2⟩
  .omega
  .have:=Z7.2 h2.symm;omega
  .omega
 .rw[if_pos (by omega),if_pos (by omega)];omega
theorem cmpP_trans {a b c:Pos} (h1:cmpP a b<0) (h2:cmpP b c<0):cmpP a c<0:=by
 have tr:∀ {x y z:ByteArray},cmpS x y<0->cmpS y z<0->cmpS x z<0:=fun h1 h2=>cmpS_lt.2 (bl_trans _ _ _ (cmpS_lt.1 h1) (cmpS_lt.1 h2));unfold cmpP at *;by_cases e1:cmpS a.acc b.acc=0
 .rw[if_neg (fun x=>x e1)]at h1;have ha:=Z7.1 e1;rw[ha];by_cases e2:cmpS b.acc c.acc=0
  .rw[if_neg (fun x=>x e2)]at h2 ⊢;exact tr h1 h2
  .rw[if_pos e2]at h2 ⊢;exact h2
 .rw[if_pos e1]at h1;by_cases e2:cmpS b.acc c.acc=0
  .have hb:=Z7.1 e2;rw[<-hb,if_pos e1];exact h1
  .rw[if_pos e2]at h2;have:=tr h1 h2;rw[if_pos (by omega)];exact this
end NA
namespace NA
theorem pR_set (l:List Pos) (i:Nat) (x:Pos):(pR l).set i [V.x (.string x.acc),V.x (.string x.sym),V.x (.int .i64 x.qty),V.x (.int .i64 x.value),V.x (.bool x.over)]=pR (l.set i x):=by
 unfold pR;rw[List.map_set]
theorem pR_store (m:List Pos) (i:Nat) (y:Pos):(pR m).set i (V.x (.string y.acc)::V.x (.string y.sym)::V.x (.int .i64 y.qty)::V.x (.int .i64 y.value)::V.x (.bool y.over)::List.drop 5 ((pR m).getD i []))=pR (m.set i y):=by
 have e:List.drop 5 ((pR m).getD i [])=[]:=by
  unfold pR;rw[List.getD_eq_getElem?_getD,List.getElem?_map];cases m[i]?<;>rfl
 rw[e];exact pR_set m i y
theorem rowAt_p (l:List Pos) (i:Nat):rowAt ty69 (pR l) i 0=[V.x (.string (l.getD i default).acc),V.x (.string (l.getD i default).sym),V.x (.int .i64 (l.getD i default).qty),V.x (.int .i64 (l.getD i default).value),V.x (.bool (l.getD i default).over)]:=by
 have hz:zeroV ty69=[.x (.string ⟨#[]⟩),.x (.string ⟨#[]⟩),.x (.int .i64 0),.x (.int .i64 0),.x (.bool false)]:=by kernel_rfl
 unfold rowAt pR;simp only[List.getD_eq_getElem?_getD,List.getElem?_map]
 cases l[i]? with
 | none=>simp only[Option.map_none,hz];rfl
 | some x=>rfl
def swp (l:List Pos) (i j:Nat):List Pos:=(l.set i (l.getD j default)).set j (l.getD i default)
theorem Z4 (l:List Pos) (i j:Nat):(swp l i j).length=l.length:=by unfold swp;simp
def insJ (a:Nat):Nat->List Pos->List Pos
 | 0,l=>l
 | j+1,l=>if a<j+1/\cmpP (l.getD (j+1) default) (l.getD j default)<0 then insJ a j (swp l (j+1) j) else l
def insI' (a:Nat):Nat->Nat->List Pos->List Pos
 | 0,_,l=>l
 | c+1,i,l=>insI' a c (i+1) (insJ a i l)
theorem insJ_len (a:Nat):∀(j:Nat) (l:List Pos),(insJ a j l).length=l.length
 | 0,l=>rfl
 | j+1,l=>by
  unfold insJ
  split
  .rw[insJ_len a j,Z4]
  .rfl
theorem insJ_stop {a j:Nat} {l:List Pos} (h:¬a<j):insJ a j l=l:=by
 cases j with
 | zero=>rfl
 | succ j=>rw[insJ,if_neg (fun h2=>h h2.1)]
def qAQ21:=PLift.up (An @evO_f (An @getD_pR (An @rowAt_p (An @pR_set (An @List.length_map.{0,0} (An @List.length_set.{0} (An @tn1 (An @Int.natCast_add (An @Int.natCast_one (An @Int.add_sub_cancel @Int.toNat_natCast))))))))))
theorem ins_c (l:List Pos) (a b:Nat) (hl:l.length<=1000000) (hab:a<=b/\b<=l.length) (r:List Pos) (hr:insI' a (b - (a+1)) (a+1) l=r) :
 ACall prog 173 [.row 5 (pR l)] [.e (.c (.o 0 l.length)),I a,I b,fD 43] (.t []) [.row 5 (pR r)]:=by
 have hq1:True:=trivial;have hq2:True:=trivial;have hq3:True:=trivial;obtain ⟨N,hN⟩:∃N,l.length=N:=⟨_,rfl⟩
 refine Ac func173 ?_;refine Wo (Own.mk (f:=(oF [42,111,173,174,222,260]))) (An @hq1 (An @hq2 (An @hq3 qAQ21.1))) (fun u1 u2 u3 u4 u5 u6 u7 u8 u9 u10=>Zd ⟨u1,u2,u3,u4,u5⟩ ⟨u6,u7,u8,u9,u10⟩) ?_;refine AWp.loop (τ:=ren []) (fun s:Nat×List Pos=>mkSt [(0,.e (.c (.o 0 N))),(1,I a),(2,I b),(3,fD 43),(8,I s.1)] [(0,.row 5 (pR s.2))] 1) (fun s=>a+1<=s.1/\(s.1<=b\/s.1=a+1)/\s.2.length=N/\insI' a (b - s.1) s.1 s.2=r) (fun s=>b - s.1) (a+1,l) ⟨by omega,.inr rfl,hN,hr⟩ (by rw[hN];refine Le.of (ν:=[]) (by kernel_rfl) ?_ ?_<;>((refine Lw (An @hq1 (An @hq2 (An @hq3 qAQ21.1))) ?_;try exact ⟨⟩);try omega)) fun s hs=>?_;obtain ⟨i,m⟩:=s;obtain ⟨hi1,hi2,hm,hres⟩:=hs;dsimp only at hi1 hi2 hm hres ⊢;by_cases hib:i<b
 .refine Wo (Own.mk (f:=(oF [42,111,173,174,222,260]))) (An @hq1 (An @hq2 (An @hq3 qAQ21.1))) (fun u1 u2 u3 u4 u5 u6 u7 u8 u9 u10=>Zd ⟨u1,u2,u3,u4,u5⟩ ⟨u6,u7,u8,u9,u10⟩) ?_;refine Cb ?_ ?_<;>intro hc<;>(try exact ⟨⟩)
  .obtain ⟨m2,hm2⟩:∃m2,insJ a i m=m2:=⟨_,rfl⟩
   have hres2:insI' a (b - (i+1)) (i+1) m2=r:=by
    rw[<-hm2,<-hres,show b - i=(b - (i+1))+1 by omega];rfl
   have hm2l:m2.length=N:=by rw[<-hm2,insJ_len,hm]
   refine Wo (Own.mk (f:=(oF [42,111,173,174,222,260]))) (An @hq1 (An @hq2 (An @hq3 qAQ21.1))) (fun u1 u2 u3 u4 u5 u6 u7 u8 u9 u10=>Zd ⟨u1,u2,u3,u4,u5⟩ ⟨u6,u7,u8,u9,u10⟩) ?_;refine AWp.loop (τ:=ren []) (fun s:Nat×List Pos=>mkSt [(0,.e (.c (.o 0 N))),(1,I a),(2,I b),(3,fD 43),(8,I i),(9,I s.1)] [(0,.row 5 (pR s.2))] 1) (fun s=>s.1<=i/\s.2.length=N/\insJ a s.1 s.2=m2) (fun s=>s.1) (i,m) ⟨Nat.le_refl _,hm,hm2⟩ (by refine Le.of (ν:=[]) (by kernel_rfl) ?_ ?_<;>((refine Lw (An @hq1 (An @hq2 (An @hq3 qAQ21.1))) ?_;try exact ⟨⟩);try omega)) fun s hs=>?_;clear hm hm2 hres;obtain ⟨j,m⟩:=s;obtain ⟨hj,hm,hm2⟩:=hs;dsimp only at hj hm hm2 ⊢;by_cases haj:a<j
   .obtain ⟨j,rfl⟩:∃k,j=k+1:=⟨j - 1,by omega⟩
    obtain ⟨x,hx⟩:∃x,m.getD (j+1) default=x:=⟨_,rfl⟩
    obtain ⟨y,hy⟩:∃y,m.getD j default=y:=⟨_,rfl⟩
    have hq1:=hx;have hq2:=hy;rw[insJ,hx,hy]at hm2;refine Wo (Own.mk (f:=(oF [42,111,173,174,222,260]))) (An @hq1 (An @hq2 (An @hq3 qAQ21.1))) (fun u1 u2 u3 u4 u5 u6 u7 u8 u9 u10=>Zd ⟨u1,u2,u3,u4,u5⟩ ⟨u6,u7,u8,u9,u10⟩) ?_;refine Cb ?_ ?_<;>intro hc<;>(try exact ⟨⟩)
    .rw[if_pos ⟨haj,hc.2⟩]at hm2;have hq3:(m.set (j+1) y).set j x=swp m (j+1) j:=by unfold swp;rw[hx,hy]
     refine Wo (Own.mk (f:=(oF [42,111,173,174,222,260]))) (An @hq1 (An @hq2 (An @hq3 qAQ21.1))) (fun u1 u2 u3 u4 u5 u6 u7 u8 u9 u10=>Zd ⟨u1,u2,u3,u4,u5⟩ ⟨u6,u7,u8,u9,u10⟩) ?_;refine Za (τ:=ren []) (ν:=[]) (j,swp m (j+1) j) ⟨by dsimp only;omega,by rw[Z4];exact hm,hm2⟩ (by dsimp only;omega) ?_;refine Le.of (by kernel_rfl) ?_ ?_<;>((refine Lw (An @hq1 (An @hq2 (An @hq3 qAQ21.1))) ?_;try exact ⟨⟩);try (first|omega|(rw[pR_store,pR_store,hq3])))
    .rw[if_neg (fun h=>by rcases hc with h1|h1;exact h1 (by omega);exact h1 h.2)]at hm2;subst hm2;refine Wo (Own.mk (f:=(oF [42,111,173,174,222,260]))) (An @hq1 (An @hq2 (An @hq3 qAQ21.1))) (fun u1 u2 u3 u4 u5 u6 u7 u8 u9 u10=>Zd ⟨u1,u2,u3,u4,u5⟩ ⟨u6,u7,u8,u9,u10⟩) ?_;refine Za (τ:=ren []) (ν:=[]) (i+1,m) ⟨by dsimp only;omega,.inl hib,hm,hres2⟩ (by dsimp only;omega) ?_;refine Le.of (by kernel_rfl) ?_ ?_<;>((refine Lw (An @hq1 (An @hq2 (An @hq3 qAQ21.1))) ?_;try exact ⟨⟩);try omega)
   .rw[insJ_stop haj]at hm2;subst hm2;refine Wo (Own.mk (f:=(oF [42,111,173,174,222,260]))) (An @hq1 (An @hq2 (An @hq3 qAQ21.1))) (fun u1 u2 u3 u4 u5 u6 u7 u8 u9 u10=>Zd ⟨u1,u2,u3,u4,u5⟩ ⟨u6,u7,u8,u9,u10⟩) ?_;refine Cb ?_ ?_<;>intro hc<;>(try exact ⟨⟩)
    .omega
    .refine Wo (Own.mk (f:=(oF [42,111,173,174,222,260]))) (An @hq1 (An @hq2 (An @hq3 qAQ21.1))) (fun u1 u2 u3 u4 u5 u6 u7 u8 u9 u10=>Zd ⟨u1,u2,u3,u4,u5⟩ ⟨u6,u7,u8,u9,u10⟩) ?_;refine Za (τ:=ren []) (ν:=[]) (i+1,m) ⟨by dsimp only;omega,.inl hib,hm,hres2⟩ (by dsimp only;omega) ?_;refine Le.of (by kernel_rfl) ?_ ?_<;>((refine Lw (An @hq1 (An @hq2 (An @hq3 qAQ21.1))) ?_;try exact ⟨⟩);try omega)
  .omega
 .rw[show b - i=0 by omega]at hres;refine Wo (Own.mk (f:=(oF [42,111,173,174,222,260]))) (An @hq1 (An @hq2 (An @hq3 qAQ21.1))) (fun u1 u2 u3 u4 u5 u6 u7 u8 u9 u10=>Zd ⟨u1,u2,u3,u4,u5⟩ ⟨u6,u7,u8,u9,u10⟩) ?_;refine Cb ?_ ?_<;>intro hc<;>(try exact ⟨⟩)
  .omega
  .refine Wo (Own.mk (f:=(oF [42,111,173,174,222,260]))) (An @hq1 (An @hq2 (An @hq3 qAQ21.1))) (fun u1 u2 u3 u4 u5 u6 u7 u8 u9 u10=>Zd ⟨u1,u2,u3,u4,u5⟩ ⟨u6,u7,u8,u9,u10⟩) ?_;obtain rfl:m=r:=hres;refine Fs @results173 ?_;refine ⟨[0],[],[],by kernel_rfl,?_,?_⟩<;>((refine Lw (An @hq1 (An @hq2 (An @hq3 qAQ21.1))) ?_;try exact ⟨⟩);try omega)
end NA
namespace NA
def swR (a b:Nat):Nat->Nat->List Pos->List Pos
 | 0,_,l=>l
 | c+1,i,l=>swR a b c (i+1) (swp l (a+i) (b+i))
theorem tnA (a b:Nat):((a:Int)+(b:Int)).toNat=a+b:=by omega
theorem swR_len (a b:Nat):∀(c i:Nat) (l:List Pos),(swR a b c i l).length=l.length
 | 0,_,l=>rfl
 | c+1,i,l=>by unfold swR;rw[swR_len a b c,Z4]
def qAQ31:=PLift.up (An @evO_f (An @getD_pR (An @rowAt_p (An @pR_set (An @List.length_map.{0,0} (An @List.length_set.{0} (An @tn1 (An @tnA @Int.toNat_natCast))))))))
theorem swap_c (l:List Pos) (N a b n:Nat) (hN:l.length=N) (hl:N<=1000000) (ha:a+n<=N) (hb:b+n<=N) (r:List Pos) (hr:swR a b n 0 l=r) :
 ACall prog 260 [.row 5 (pR l)] [.e (.c (.o 0 N)),I a,I b,I n,fD 43] (.t []) [.row 5 (pR r)]:=by
 have hq1:True:=trivial;have hq2:True:=trivial;have hq3:True:=trivial;have hq4:True:=trivial;have hsw:True:=trivial;refine Ac func260 ?_;refine Wo (Own.mk (f:=(oF [42,111,173,174,222,260]))) (An @hq1 (An @hq2 (An @hq3 (An @hq4 qAQ31.1)))) @hsw ?_;refine AWp.loop (τ:=ren []) (fun s:Nat×List Pos=>mkSt [(0,.e (.c (.o 0 N))),(1,I a),(2,I b),(3,I n),(10,I s.1)] [(0,.row 5 (pR s.2))] 1) (fun s=>s.1<=n/\s.2.length=N/\swR a b (n - s.1) s.1 s.2=r) (fun s=>n - s.1) (0,l) ⟨Nat.zero_le _,hN,hr⟩ (by refine Le.of (ν:=[]) (by kernel_rfl) ?_ ?_<;>((refine Lw (An @hq1 (An @hq2 (An @hq3 (An @hq4 qAQ31.1)))) ?_;try exact ⟨⟩);try omega)) fun s hs=>?_;clear hN hr;obtain ⟨i,m⟩:=s;obtain ⟨hi,hm,hres⟩:=hs;dsimp only at hi hm hres ⊢;by_cases hin:i<n
 .obtain ⟨x,hx⟩:∃x,m.getD (a+i) default=x:=⟨_,rfl⟩
  obtain ⟨y,hy⟩:∃y,m.getD (b+i) default=y:=⟨_,rfl⟩
  have hq1:=hx;have hq2:=hy;have hq3:(m.set (a+i) y).set (b+i) x=swp m (a+i) (b+i):=by unfold swp;rw[hx,hy]
  rw[show n - i=(n - (i+1))+1 by omega,swR]at hres;refine Wo (Own.mk (f:=(oF [42,111,173,174,222,260]))) (An @hq1 (An @hq2 (An @hq3 (An @hq4 qAQ31.1)))) @hsw ?_;refine Cb ?_ ?_<;>intro hc<;>(try exact ⟨⟩)
  .refine Wo (Own.mk (f:=(oF [42,111,173,174,222,260]))) (An @hq1 (An @hq2 (An @hq3 (An @hq4 qAQ31.1)))) @hsw ?_;refine Za (τ:=ren []) (ν:=[]) (i+1,swp m (a+i) (b+i)) ⟨hin,by rw[Z4];exact hm,hres⟩ (by dsimp only;omega) ?_;refine Le.of (by kernel_rfl) ?_ ?_<;>((refine Lw (An @hq1 (An @hq2 (An @hq3 (An @hq4 qAQ31.1)))) ?_;try exact ⟨⟩);try (first|omega|(rw[pR_store,pR_store,hq3])))
  .omega
 .obtain rfl:i=n:=by omega
  rw[Nat.sub_self]at hres;obtain rfl:m=r:=hres;refine Wo (Own.mk (f:=(oF [42,111,173,174,222,260]))) (An @hq1 (An @hq2 (An @hq3 (An @hq4 qAQ31.1)))) @hsw ?_;refine Cb ?_ ?_<;>intro hc<;>(try exact ⟨⟩)
  .omega
  .refine Wo (Own.mk (f:=(oF [42,111,173,174,222,260]))) (An @hq1 (An @hq2 (An @hq3 (An @hq4 qAQ31.1)))) @hsw ?_;refine Fs @results260 ?_;refine ⟨[0],[],[],by kernel_rfl,?_,?_⟩<;>((refine Lw (An @hq1 (An @hq2 (An @hq3 (An @hq4 qAQ31.1)))) ?_;try exact ⟨⟩);try omega)
def rotF (m i j:Nat) (l:List Pos):List Pos :=
 if i=0\/j=0 then l else
 if i=j then swR (m - i) m i 0 l else
 if j<i then rotF m (i - j) j (swR (m - i) m j 0 l) else rotF m i (j - i) (swR (m - i) (m+j - i) i 0 l)
termination_by i+j
decreasing_by all_goals omega
theorem rot_c (l:List Pos) (N a m b:Nat) (hN:l.length=N) (hl:N<=1000000) (ha:a<m) (hm:m<b) (hb:b<=N) (r:List Pos) (hr:rotF m (m - a) (b - m) l=r) :
 ACall prog 222 [.row 5 (pR l)] [.e (.c (.o 0 N)),I a,I m,I b,fD 43] (.t []) [.row 5 (pR r)]:=by
 have hq1:True:=trivial;have hq2:True:=trivial;have hq3:True:=trivial;have hq4:True:=trivial;have hsw:True:=trivial;refine Ac func222 ?_;refine Wo (Own.mk (f:=(oF [42,111,173,174,222,260]))) (An @hq1 (An @hq2 (An @hq3 (An @hq4 qAQ31.1)))) @hsw ?_;refine AWp.loop (τ:=ren []) (fun s:Nat×Nat×List Pos=>mkSt [(0,.e (.c (.o 0 N))),(2,I m),(4,fD 43),(10,I s.1),(11,I s.2.1)] [(0,.row 5 (pR s.2.2))] 1) (fun s=>0<s.1/\0<s.2.1/\s.1<=m/\m+s.2.1<=N/\s.2.2.length=N/\rotF m s.1 s.2.1 s.2.2=r) (fun s=>s.1+s.2.1) (m - a,b - m,l) ⟨by dsimp only;omega,by dsimp only;omega,by dsimp only;omega,by dsimp only;omega,hN,hr⟩ (by refine Le.of (ν:=[]) (by kernel_rfl) ?_ ?_<;>((refine Lw (An @hq1 (An @hq2 (An @hq3 (An @hq4 qAQ31.1)))) ?_;try exact ⟨⟩);try omega)) fun s hs=>?_;clear hN hr;obtain ⟨i,j,q⟩:=s;obtain ⟨hi,hj,him,hjm,hq,hres⟩:=hs;dsimp only at hi hj him hjm hq hres ⊢;rw[rotF,if_neg (by omega)]at hres;by_cases hij:i=j
 .subst hij;rw[if_pos rfl]at hres;have hsw:=swap_c q N (m - i) m i hq hl (by omega) (by omega) r hres;rw[show ((m - i:Nat):Int)=(m:Int) - (i:Int) by omega]at hsw;refine Wo (Own.mk (f:=(oF [42,111,173,174,222,260]))) (An @hq1 (An @hq2 (An @hq3 (An @hq4 qAQ31.1)))) @hsw ?_;refine Cb ?_ ?_<;>intro hc<;>(try exact ⟨⟩)
  .contradiction
  .refine Wo (Own.mk (f:=(oF [42,111,173,174,222,260]))) (An @hq1 (An @hq2 (An @hq3 (An @hq4 qAQ31.1)))) @hsw ?_;refine Fs @results222 ?_;refine ⟨[0],[],[],by kernel_rfl,?_,?_⟩<;>((refine Lw (An @hq1 (An @hq2 (An @hq3 (An @hq4 qAQ31.1)))) ?_;try exact ⟨⟩);try omega)
 .rw[if_neg hij]at hres;by_cases hlt:j<i
  .rw[if_pos hlt]at hres;have hsw:=swap_c q N (m - i) m j hq hl (by omega) (by omega) _ rfl;rw[show ((m - i:Nat):Int)=(m:Int) - (i:Int) by omega]at hsw;refine Wo (Own.mk (f:=(oF [42,111,173,174,222,260]))) (An @hq1 (An @hq2 (An @hq3 (An @hq4 qAQ31.1)))) @hsw ?_;refine Cb ?_ ?_<;>intro hc<;>(try exact ⟨⟩)
   .refine Wo (Own.mk (f:=(oF [42,111,173,174,222,260]))) (An @hq1 (An @hq2 (An @hq3 (An @hq4 qAQ31.1)))) @hsw ?_;refine Cb ?_ ?_<;>intro hc<;>(try exact ⟨⟩)
    .refine Wo (Own.mk (f:=(oF [42,111,173,174,222,260]))) (An @hq1 (An @hq2 (An @hq3 (An @hq4 qAQ31.1)))) @hsw ?_;refine Za (τ:=ren []) (ν:=[]) (i - j,j,swR (m - i) m j 0 q) ⟨by dsimp only;omega,hj,by dsimp only;omega,hjm,by rw[swR_len];exact hq,hres⟩ (by dsimp only;omega) ?_;refine Le.of (by kernel_rfl) ?_ ?_<;>((refine Lw (An @hq1 (An @hq2 (An @hq3 (An @hq4 qAQ31.1)))) ?_;try exact ⟨⟩);try omega)
    .omega
   .omega
  .rw[if_neg hlt]at hres;have hsw:=swap_c q N (m - i) (m+j - i) i hq hl (by omega) (by omega) _ rfl;rw[show ((m - i:Nat):Int)=(m:Int) - (i:Int) by omega,show ((m+j - i:Nat):Int)=(m:Int)+(j:Int) - (i:Int) by omega]at hsw;refine Wo (Own.mk (f:=(oF [42,111,173,174,222,260]))) (An @hq1 (An @hq2 (An @hq3 (An @hq4 qAQ31.1)))) @hsw ?_;refine Cb ?_ ?_<;>intro hc<;>(try exact ⟨⟩)
   .refine Wo (Own.mk (f:=(oF [42,111,173,174,222,260]))) (An @hq1 (An @hq2 (An @hq3 (An @hq4 qAQ31.1)))) @hsw ?_;refine Cb ?_ ?_<;>intro hc<;>(try exact ⟨⟩)
    .omega
    .refine Wo (Own.mk (f:=(oF [42,111,173,174,222,260]))) (An @hq1 (An @hq2 (An @hq3 (An @hq4 qAQ31.1)))) @hsw ?_;refine Za (τ:=ren []) (ν:=[]) (i,j - i,swR (m - i) (m+j - i) i 0 q) ⟨hi,by dsimp only;omega,him,by dsimp only;omega,by rw[swR_len];exact hq,hres⟩ (by dsimp only;omega) ?_;refine Le.of (by kernel_rfl) ?_ ?_<;>((refine Lw (An @hq1 (An @hq2 (An @hq3 (An @hq4 qAQ31.1)))) ?_;try exact ⟨⟩);try omega)
   .omega
end NA
namespace NA
def srch (Q:Nat->Bool) (lo hi:Nat):Nat :=
 if lo<hi then (if Q ((lo+hi) / 2)=true then srch Q ((lo+hi) / 2+1) hi else srch Q lo ((lo+hi) / 2)) else lo
termination_by hi - lo
decreasing_by all_goals omega
theorem srch_bd (Q:Nat->Bool):∀(n lo hi:Nat),hi - lo<=n->lo<=hi->lo<=srch Q lo hi/\srch Q lo hi<=hi:=by
 intro n
 induction n with
 | zero=>intro lo hi h1 h2;rw[srch,if_neg (by omega)];omega
 | succ n ih =>
  intro lo hi h1 h2;rw[srch]
  split
  .split
   .have:=ih ((lo+hi) / 2+1) hi (by omega) (by omega);omega
   .have:=ih lo ((lo+hi) / 2) (by omega) (by omega);omega
  .omega
def shU:Nat->Nat->List Pos->List Pos
 | 0,_,l=>l
 | c+1,k,l=>shU c (k+1) (swp l k (k+1))
def shD:Nat->Nat->List Pos->List Pos
 | 0,_,l=>l
 | c+1,k,l=>shD c (k - 1) (swp l k (k - 1))
def symF (l:List Pos) (a m b:Nat):List Pos :=
 if a<m/\m<b then
  if m - a=1 then shU (srch (fun h=>decide (cmpP (l.getD h default) (l.getD a default)<0)) m b - 1 - a) a l else
  if b - m=1 then shD (m - srch (fun h=>!decide (cmpP (l.getD m default) (l.getD h default)<0)) a m) m l else
  let mid:=(a+b) / 2
  let start:=srch (fun c=>!decide (cmpP (l.getD (mid+m - 1 - c) default) (l.getD c default)<0)) (if mid<m then mid+m - b else a) (if mid<m then mid else m)
  let l1:=if start<m/\m<mid+m - start then rotF m (m - start) (mid+m - start - m) l else l
  let l2:=if a<start/\start<mid then symF l1 a start mid else l1
  if mid<mid+m - start/\mid+m - start<b then symF l2 mid (mid+m - start) b else l2
 else l
termination_by b - a
decreasing_by all_goals omega
theorem rotF_len (m:Nat):∀(n i j:Nat) (l:List Pos),i+j<=n->(rotF m i j l).length=l.length:=by
 intro n
 induction n with
 | zero=>intro i j l h;rw[rotF,if_pos (by omega)]
 | succ n ih =>
  intro i j l h;rw[rotF]
  split
  .rfl
  .split
   .exact swR_len _ _ _ _ _
   .split
    .rw[ih _ _ _ (by omega),swR_len]
    .rw[ih _ _ _ (by omega),swR_len]
theorem shU_len:∀(c k:Nat) (l:List Pos),(shU c k l).length=l.length
 | 0,_,_=>rfl
 | c+1,k,l=>by unfold shU;rw[shU_len c,Z4]
theorem shD_len:∀(c k:Nat) (l:List Pos),(shD c k l).length=l.length
 | 0,_,_=>rfl
 | c+1,k,l=>by unfold shD;rw[shD_len c,Z4]
end NA
namespace NA
theorem tnS (k:Nat):((k:Int)+1 - 1)=(k:Int):=by omega
def qAQ51:=PLift.up (An @evO_f (An @getD_pR (An @rowAt_p (An @pR_set (An @List.length_map.{0,0} (An @List.length_set.{0} (An @tn1 (An @tnA (An @tnS @Int.toNat_natCast)))))))))
theorem sym1_c (l:List Pos) (N a m b:Nat) (hN:l.length=N) (hl:N<=1000000) (ha:m - a=1) (hm:m<b) (hb:b<=N) (r:List Pos)
 (hr:shU (srch (fun h=>decide (cmpP (l.getD h default) (l.getD a default)<0)) m b - 1 - a) a l=r) :
 ACall prog 174 [.row 5 (pR l)] [.e (.c (.o 0 N)),I a,I m,I b,fD 43] (.t []) [.row 5 (pR r)]:=by
 have hq1:True:=trivial;have hq2:True:=trivial;have hq3:True:=trivial;have hq4:True:=trivial;have hmid:True:=trivial;obtain ⟨Q,hQ⟩:∃Q:Nat->Bool,(fun h=>decide (cmpP (l.getD h default) (l.getD a default)<0))=Q:=⟨_,rfl⟩
 rw[hQ]at hr;obtain ⟨S,hS⟩:∃S,srch Q m b=S:=⟨_,rfl⟩
 have hSb:=srch_bd Q _ m b (Nat.le_refl _) (by omega);rw[hS]at hr hSb;refine Ac func174 ?_;refine Wo (Own.mk (f:=(oF [42,111,173,174,222,260]))) (An @hq1 (An @hq2 (An @hq3 (An @hq4 (An @hmid qAQ51.1))))) (fun u1 u2 u3 u4 u5 u6 u7 u8 u9 u10=>Zd ⟨u1,u2,u3,u4,u5⟩ ⟨u6,u7,u8,u9,u10⟩) ?_;refine Cb ?_ ?_<;>intro hc<;>(try exact ⟨⟩)
 .refine Wo (Own.mk (f:=(oF [42,111,173,174,222,260]))) (An @hq1 (An @hq2 (An @hq3 (An @hq4 (An @hmid qAQ51.1))))) (fun u1 u2 u3 u4 u5 u6 u7 u8 u9 u10=>Zd ⟨u1,u2,u3,u4,u5⟩ ⟨u6,u7,u8,u9,u10⟩) ?_;refine AWp.loop (τ:=ren []) (fun s:Nat×Nat=>mkSt [(0,.e (.c (.o 0 N))),(1,I a),(4,fD 43),(10,I s.1),(11,I s.2)] [(0,.row 5 (pR l))] 1) (fun s=>m<=s.1/\s.1<=s.2/\s.2<=b/\srch Q s.1 s.2=S) (fun s=>s.2 - s.1) (m,b) ⟨Nat.le_refl _,by dsimp only;omega,Nat.le_refl _,hS⟩ (by refine Le.of (ν:=[]) (by kernel_rfl) ?_ ?_<;>((refine Lw (An @hq1 (An @hq2 (An @hq3 (An @hq4 (An @hmid qAQ51.1))))) ?_;try exact ⟨⟩);try omega)) fun s hs=>?_;obtain ⟨lo,hi⟩:=s;obtain ⟨h1,h2,h3,h4⟩:=hs;dsimp only at h1 h2 h3 h4 ⊢;rw[srch]at h4;by_cases hlt:lo<hi
  .rw[if_pos hlt]at h4;have hmid:=mid_eq lo hi (by omega);obtain ⟨md,hmd⟩:∃md,(lo+hi) / 2=md:=⟨_,rfl⟩
   have hmb:lo<=md/\md<hi:=by omega
   rw[hmd]at hmid h4;clear hmd;have hQm:Q md=decide (cmpP (l.getD md default) (l.getD a default)<0):=by rw[<-hQ]
   refine Wo (Own.mk (f:=(oF [42,111,173,174,222,260]))) (An @hq1 (An @hq2 (An @hq3 (An @hq4 (An @hmid qAQ51.1))))) (fun u1 u2 u3 u4 u5 u6 u7 u8 u9 u10=>Zd ⟨u1,u2,u3,u4,u5⟩ ⟨u6,u7,u8,u9,u10⟩) ?_;refine Cb ?_ ?_<;>intro hc<;>(try exact ⟨⟩)
   .refine Wo (Own.mk (f:=(oF [42,111,173,174,222,260]))) (An @hq1 (An @hq2 (An @hq3 (An @hq4 (An @hmid qAQ51.1))))) (fun u1 u2 u3 u4 u5 u6 u7 u8 u9 u10=>Zd ⟨u1,u2,u3,u4,u5⟩ ⟨u6,u7,u8,u9,u10⟩) ?_;refine Cb ?_ ?_<;>intro hc<;>(try exact ⟨⟩)
    .rw[if_pos (by rw[hQm];exact decide_eq_true hc)]at h4;refine Wo (Own.mk (f:=(oF [42,111,173,174,222,260]))) (An @hq1 (An @hq2 (An @hq3 (An @hq4 (An @hmid qAQ51.1))))) (fun u1 u2 u3 u4 u5 u6 u7 u8 u9 u10=>Zd ⟨u1,u2,u3,u4,u5⟩ ⟨u6,u7,u8,u9,u10⟩) ?_;refine Za (τ:=ren []) (ν:=[]) (md+1,hi) ⟨by dsimp only;omega,by dsimp only;omega,h3,h4⟩ (by dsimp only;omega) ?_;refine Le.of (by kernel_rfl) ?_ ?_<;>((refine Lw (An @hq1 (An @hq2 (An @hq3 (An @hq4 (An @hmid qAQ51.1))))) ?_;try exact ⟨⟩);try omega)
    .rw[if_neg (by rw[hQm,decide_eq_true_eq];exact hc)]at h4;refine Wo (Own.mk (f:=(oF [42,111,173,174,222,260]))) (An @hq1 (An @hq2 (An @hq3 (An @hq4 (An @hmid qAQ51.1))))) (fun u1 u2 u3 u4 u5 u6 u7 u8 u9 u10=>Zd ⟨u1,u2,u3,u4,u5⟩ ⟨u6,u7,u8,u9,u10⟩) ?_;refine Za (τ:=ren []) (ν:=[]) (lo,md) ⟨h1,by dsimp only;omega,by dsimp only;omega,h4⟩ (by dsimp only;omega) ?_;refine Le.of (by kernel_rfl) ?_ ?_<;>((refine Lw (An @hq1 (An @hq2 (An @hq3 (An @hq4 (An @hmid qAQ51.1))))) ?_;try exact ⟨⟩);try omega)
   .omega
  .rw[if_neg hlt]at h4;subst h4;have hmid:True:=trivial;refine Wo (Own.mk (f:=(oF [42,111,173,174,222,260]))) (An @hq1 (An @hq2 (An @hq3 (An @hq4 (An @hmid qAQ51.1))))) (fun u1 u2 u3 u4 u5 u6 u7 u8 u9 u10=>Zd ⟨u1,u2,u3,u4,u5⟩ ⟨u6,u7,u8,u9,u10⟩) ?_;refine Cb ?_ ?_<;>intro hc<;>(try exact ⟨⟩)
   .omega
   .refine Wo (Own.mk (f:=(oF [42,111,173,174,222,260]))) (An @hq1 (An @hq2 (An @hq3 (An @hq4 (An @hmid qAQ51.1))))) (fun u1 u2 u3 u4 u5 u6 u7 u8 u9 u10=>Zd ⟨u1,u2,u3,u4,u5⟩ ⟨u6,u7,u8,u9,u10⟩) ?_;refine AWp.loop (τ:=ren []) (fun s:Nat×List Pos=>mkSt [(0,.e (.c (.o 0 N))),(10,I lo),(13,I s.1)] [(0,.row 5 (pR s.2))] 1) (fun s=>a<=s.1/\s.2.length=N/\shU (lo - 1 - s.1) s.1 s.2=r) (fun s=>lo - s.1) (a,l) ⟨Nat.le_refl _,hN,hr⟩ (by refine Le.of (ν:=[]) (by kernel_rfl) ?_ ?_<;>((refine Lw (An @hq1 (An @hq2 (An @hq3 (An @hq4 (An @hmid qAQ51.1))))) ?_;try exact ⟨⟩);try omega)) fun s hs=>?_;clear hr hN;obtain ⟨k,q⟩:=s;obtain ⟨hk,hq,hres⟩:=hs;dsimp only at hk hq hres ⊢;by_cases hkl:k<lo - 1
    .obtain ⟨x,hx⟩:∃x,q.getD k default=x:=⟨_,rfl⟩
     obtain ⟨y,hy⟩:∃y,q.getD (k+1) default=y:=⟨_,rfl⟩
     have hq1:=hx;have hq2:=hy;have hq3:(q.set k y).set (k+1) x=swp q k (k+1):=by unfold swp;rw[hx,hy]
     rw[show lo - 1 - k=(lo - 1 - (k+1))+1 by omega,shU]at hres;refine Wo (Own.mk (f:=(oF [42,111,173,174,222,260]))) (An @hq1 (An @hq2 (An @hq3 (An @hq4 (An @hmid qAQ51.1))))) (fun u1 u2 u3 u4 u5 u6 u7 u8 u9 u10=>Zd ⟨u1,u2,u3,u4,u5⟩ ⟨u6,u7,u8,u9,u10⟩) ?_;refine Cb ?_ ?_<;>intro hc<;>(try exact ⟨⟩)
     .refine Wo (Own.mk (f:=(oF [42,111,173,174,222,260]))) (An @hq1 (An @hq2 (An @hq3 (An @hq4 (An @hmid qAQ51.1))))) (fun u1 u2 u3 u4 u5 u6 u7 u8 u9 u10=>Zd ⟨u1,u2,u3,u4,u5⟩ ⟨u6,u7,u8,u9,u10⟩) ?_;refine Za (τ:=ren []) (ν:=[]) (k+1,swp q k (k+1)) ⟨by dsimp only;omega,by rw[Z4];exact hq,hres⟩ (by dsimp only;omega) ?_;refine Le.of (by kernel_rfl) ?_ ?_<;>((refine Lw (An @hq1 (An @hq2 (An @hq3 (An @hq4 (An @hmid qAQ51.1))))) ?_;try exact ⟨⟩);try (first|omega|(rw[pR_store,pR_store,hq3])))
     .omega
    .rw[show lo - 1 - k=0 by omega]at hres;obtain rfl:q=r:=hres;refine Wo (Own.mk (f:=(oF [42,111,173,174,222,260]))) (An @hq1 (An @hq2 (An @hq3 (An @hq4 (An @hmid qAQ51.1))))) (fun u1 u2 u3 u4 u5 u6 u7 u8 u9 u10=>Zd ⟨u1,u2,u3,u4,u5⟩ ⟨u6,u7,u8,u9,u10⟩) ?_;refine Cb ?_ ?_<;>intro hc<;>(try exact ⟨⟩)
     .omega
     .refine Wo (Own.mk (f:=(oF [42,111,173,174,222,260]))) (An @hq1 (An @hq2 (An @hq3 (An @hq4 (An @hmid qAQ51.1))))) (fun u1 u2 u3 u4 u5 u6 u7 u8 u9 u10=>Zd ⟨u1,u2,u3,u4,u5⟩ ⟨u6,u7,u8,u9,u10⟩) ?_;refine Fs @results174 ?_;refine ⟨[0],[],[],by kernel_rfl,?_,?_⟩<;>((refine Lw (An @hq1 (An @hq2 (An @hq3 (An @hq4 (An @hmid qAQ51.1))))) ?_;try exact ⟨⟩);try omega)
 .omega
end NA
namespace NA
def qAQ61:=PLift.up (An @evO_f (An @getD_pR (An @rowAt_p (An @pR_set (An @List.length_map.{0,0} (An @List.length_set.{0} (An @tn1 (An @tnA (An @tnS @Int.toNat_natCast)))))))))
theorem sym2_c (l:List Pos) (N a m b:Nat) (hN:l.length=N) (hl:N<=1000000) (ha:a<m) (ha1:¬m - a=1) (hm:b - m=1) (hb:b<=N) (r:List Pos)
 (hr:shD (m - srch (fun h=>!decide (cmpP (l.getD m default) (l.getD h default)<0)) a m) m l=r) :
 ACall prog 174 [.row 5 (pR l)] [.e (.c (.o 0 N)),I a,I m,I b,fD 43] (.t []) [.row 5 (pR r)]:=by
 have hq1:True:=trivial;have hq2:True:=trivial;have hq3:True:=trivial;have hq4:True:=trivial;have hmid:True:=trivial;obtain ⟨Q,hQ⟩:∃Q:Nat->Bool,(fun h=>!decide (cmpP (l.getD m default) (l.getD h default)<0))=Q:=⟨_,rfl⟩
 rw[hQ]at hr;obtain ⟨S,hS⟩:∃S,srch Q a m=S:=⟨_,rfl⟩
 have hSb:=srch_bd Q _ a m (Nat.le_refl _) (by omega);rw[hS]at hr hSb;refine Ac func174 ?_;refine Wo (Own.mk (f:=(oF [42,111,173,174,222,260]))) (An @hq1 (An @hq2 (An @hq3 (An @hq4 (An @hmid qAQ61.1))))) (fun u1 u2 u3 u4 u5 u6 u7 u8 u9 u10=>Zd ⟨u1,u2,u3,u4,u5⟩ ⟨u6,u7,u8,u9,u10⟩) ?_;refine Cb ?_ ?_<;>intro hc<;>(try exact ⟨⟩)
 .omega
 .refine Wo (Own.mk (f:=(oF [42,111,173,174,222,260]))) (An @hq1 (An @hq2 (An @hq3 (An @hq4 (An @hmid qAQ61.1))))) (fun u1 u2 u3 u4 u5 u6 u7 u8 u9 u10=>Zd ⟨u1,u2,u3,u4,u5⟩ ⟨u6,u7,u8,u9,u10⟩) ?_;refine Cb ?_ ?_<;>intro hc<;>(try exact ⟨⟩)
  .refine Wo (Own.mk (f:=(oF [42,111,173,174,222,260]))) (An @hq1 (An @hq2 (An @hq3 (An @hq4 (An @hmid qAQ61.1))))) (fun u1 u2 u3 u4 u5 u6 u7 u8 u9 u10=>Zd ⟨u1,u2,u3,u4,u5⟩ ⟨u6,u7,u8,u9,u10⟩) ?_;refine AWp.loop (τ:=ren []) (fun s:Nat×Nat=>mkSt [(0,.e (.c (.o 0 N))),(2,I m),(4,fD 43),(14,I s.1),(15,I s.2)] [(0,.row 5 (pR l))] 1) (fun s=>a<=s.1/\s.1<=s.2/\s.2<=m/\srch Q s.1 s.2=S) (fun s=>s.2 - s.1) (a,m) ⟨Nat.le_refl _,by dsimp only;omega,Nat.le_refl _,hS⟩ (by refine Le.of (ν:=[]) (by kernel_rfl) ?_ ?_<;>((refine Lw (An @hq1 (An @hq2 (An @hq3 (An @hq4 (An @hmid qAQ61.1))))) ?_;try exact ⟨⟩);try omega)) fun s hs=>?_;obtain ⟨lo,hi⟩:=s;obtain ⟨h1,h2,h3,h4⟩:=hs;dsimp only at h1 h2 h3 h4 ⊢;rw[srch]at h4;by_cases hlt:lo<hi
   .rw[if_pos hlt]at h4;have hmid:=mid_eq lo hi (by omega);obtain ⟨md,hmd⟩:∃md,(lo+hi) / 2=md:=⟨_,rfl⟩
    have hmb:lo<=md/\md<hi:=by omega
    rw[hmd]at hmid h4;clear hmd;have hQm:Q md=!decide (cmpP (l.getD m default) (l.getD md default)<0):=by rw[<-hQ]
    refine Wo (Own.mk (f:=(oF [42,111,173,174,222,260]))) (An @hq1 (An @hq2 (An @hq3 (An @hq4 (An @hmid qAQ61.1))))) (fun u1 u2 u3 u4 u5 u6 u7 u8 u9 u10=>Zd ⟨u1,u2,u3,u4,u5⟩ ⟨u6,u7,u8,u9,u10⟩) ?_;refine Cb ?_ ?_<;>intro hc<;>(try exact ⟨⟩)
    .refine Wo (Own.mk (f:=(oF [42,111,173,174,222,260]))) (An @hq1 (An @hq2 (An @hq3 (An @hq4 (An @hmid qAQ61.1))))) (fun u1 u2 u3 u4 u5 u6 u7 u8 u9 u10=>Zd ⟨u1,u2,u3,u4,u5⟩ ⟨u6,u7,u8,u9,u10⟩) ?_;refine Cb ?_ ?_<;>intro hc<;>(try exact ⟨⟩)
     .have hc':¬cmpP (l.getD m default) (l.getD md default)<0:=hc;rw[if_pos (by rw[hQm,decide_eq_false hc'];rfl)]at h4;refine Wo (Own.mk (f:=(oF [42,111,173,174,222,260]))) (An @hq1 (An @hq2 (An @hq3 (An @hq4 (An @hmid qAQ61.1))))) (fun u1 u2 u3 u4 u5 u6 u7 u8 u9 u10=>Zd ⟨u1,u2,u3,u4,u5⟩ ⟨u6,u7,u8,u9,u10⟩) ?_;refine Za (τ:=ren []) (ν:=[]) (md+1,hi) ⟨by dsimp only;omega,by dsimp only;omega,h3,h4⟩ (by dsimp only;omega) ?_;refine Le.of (by kernel_rfl) ?_ ?_<;>((refine Lw (An @hq1 (An @hq2 (An @hq3 (An @hq4 (An @hmid qAQ61.1))))) ?_;try exact ⟨⟩);try omega)
     .have hc':cmpP (l.getD m default) (l.getD md default)<0:=hc;rw[if_neg (by rw[hQm,decide_eq_true hc'];decide)]at h4;refine Wo (Own.mk (f:=(oF [42,111,173,174,222,260]))) (An @hq1 (An @hq2 (An @hq3 (An @hq4 (An @hmid qAQ61.1))))) (fun u1 u2 u3 u4 u5 u6 u7 u8 u9 u10=>Zd ⟨u1,u2,u3,u4,u5⟩ ⟨u6,u7,u8,u9,u10⟩) ?_;refine Za (τ:=ren []) (ν:=[]) (lo,md) ⟨h1,by dsimp only;omega,by dsimp only;omega,h4⟩ (by dsimp only;omega) ?_;refine Le.of (by kernel_rfl) ?_ ?_<;>((refine Lw (An @hq1 (An @hq2 (An @hq3 (An @hq4 (An @hmid qAQ61.1))))) ?_;try exact ⟨⟩);try omega)
    .omega
   .rw[if_neg hlt]at h4;subst h4;have hmid:True:=trivial;refine Wo (Own.mk (f:=(oF [42,111,173,174,222,260]))) (An @hq1 (An @hq2 (An @hq3 (An @hq4 (An @hmid qAQ61.1))))) (fun u1 u2 u3 u4 u5 u6 u7 u8 u9 u10=>Zd ⟨u1,u2,u3,u4,u5⟩ ⟨u6,u7,u8,u9,u10⟩) ?_;refine Cb ?_ ?_<;>intro hc<;>(try exact ⟨⟩)
    .omega
    .refine Wo (Own.mk (f:=(oF [42,111,173,174,222,260]))) (An @hq1 (An @hq2 (An @hq3 (An @hq4 (An @hmid qAQ61.1))))) (fun u1 u2 u3 u4 u5 u6 u7 u8 u9 u10=>Zd ⟨u1,u2,u3,u4,u5⟩ ⟨u6,u7,u8,u9,u10⟩) ?_;refine AWp.loop (τ:=ren []) (fun s:Nat×List Pos=>mkSt [(0,.e (.c (.o 0 N))),(14,I lo),(17,I s.1)] [(0,.row 5 (pR s.2))] 1) (fun s=>s.1<=m/\s.2.length=N/\shD (s.1 - lo) s.1 s.2=r) (fun s=>s.1) (m,l) ⟨Nat.le_refl _,hN,hr⟩ (by refine Le.of (ν:=[]) (by kernel_rfl) ?_ ?_<;>((refine Lw (An @hq1 (An @hq2 (An @hq3 (An @hq4 (An @hmid qAQ61.1))))) ?_;try exact ⟨⟩);try omega)) fun s hs=>?_;clear hr hN;obtain ⟨k,q⟩:=s;obtain ⟨hk,hq,hres⟩:=hs;dsimp only at hk hq hres ⊢;by_cases hkl:lo<k
     .obtain ⟨k,rfl⟩:∃k',k=k'+1:=⟨k - 1,by omega⟩
      obtain ⟨x,hx⟩:∃x,q.getD (k+1) default=x:=⟨_,rfl⟩
      obtain ⟨y,hy⟩:∃y,q.getD k default=y:=⟨_,rfl⟩
      have hq1:=hx;have hq2:=hy;have hq3:(q.set (k+1) y).set k x=swp q (k+1) k:=by unfold swp;rw[hx,hy]
      rw[show k+1 - lo=(k - lo)+1 by omega,shD,Nat.add_sub_cancel]at hres;rw[show ((k+1:Nat):Int)=(k:Int)+1 by omega];refine Wo (Own.mk (f:=(oF [42,111,173,174,222,260]))) (An @hq1 (An @hq2 (An @hq3 (An @hq4 (An @hmid qAQ61.1))))) (fun u1 u2 u3 u4 u5 u6 u7 u8 u9 u10=>Zd ⟨u1,u2,u3,u4,u5⟩ ⟨u6,u7,u8,u9,u10⟩) ?_;refine Cb ?_ ?_<;>intro hc<;>(try exact ⟨⟩)
      .refine Wo (Own.mk (f:=(oF [42,111,173,174,222,260]))) (An @hq1 (An @hq2 (An @hq3 (An @hq4 (An @hmid qAQ61.1))))) (fun u1 u2 u3 u4 u5 u6 u7 u8 u9 u10=>Zd ⟨u1,u2,u3,u4,u5⟩ ⟨u6,u7,u8,u9,u10⟩) ?_;refine Za (τ:=ren []) (ν:=[]) (k,swp q (k+1) k) ⟨by dsimp only;omega,by rw[Z4];exact hq,hres⟩ (by dsimp only;omega) ?_;refine Le.of (by kernel_rfl) ?_ ?_<;>((refine Lw (An @hq1 (An @hq2 (An @hq3 (An @hq4 (An @hmid qAQ61.1))))) ?_;try exact ⟨⟩);try (first|omega|(rw[pR_store,pR_store,hq3])))
      .omega
     .rw[show k - lo=0 by omega]at hres;obtain rfl:q=r:=hres;refine Wo (Own.mk (f:=(oF [42,111,173,174,222,260]))) (An @hq1 (An @hq2 (An @hq3 (An @hq4 (An @hmid qAQ61.1))))) (fun u1 u2 u3 u4 u5 u6 u7 u8 u9 u10=>Zd ⟨u1,u2,u3,u4,u5⟩ ⟨u6,u7,u8,u9,u10⟩) ?_;refine Cb ?_ ?_<;>intro hc<;>(try exact ⟨⟩)
      .omega
      .refine Wo (Own.mk (f:=(oF [42,111,173,174,222,260]))) (An @hq1 (An @hq2 (An @hq3 (An @hq4 (An @hmid qAQ61.1))))) (fun u1 u2 u3 u4 u5 u6 u7 u8 u9 u10=>Zd ⟨u1,u2,u3,u4,u5⟩ ⟨u6,u7,u8,u9,u10⟩) ?_;refine Fs @results174 ?_;refine ⟨[0],[],[],by kernel_rfl,?_,?_⟩<;>((refine Lw (An @hq1 (An @hq2 (An @hq3 (An @hq4 (An @hmid qAQ61.1))))) ?_;try exact ⟨⟩);try omega)
  .omega
end NA
namespace NA
def midQ (m0:Nat) (st2:St) (Q:Exit->St->Prop):Exit->St->Prop
 | .normal,st=>∃ τ ν,Le m0 τ ν st st2
 | e,st=>Q e st
theorem AWp.join {P:Program} {N m0:Nat} {x y:Code} {Q Q':Exit->St->Prop} {st:St} (st2:St) (hx:AWp P N m0 x (midQ m0 st2 Q) st) (hy:AWp P N m0 y Q' st2):AWp P N m0 x (thenQ (fun st=>AWp P N m0 y Q' st) Q) st :=
 hx.mono fun e s h=>by
  cases e with
  | normal=>obtain ⟨τ,ν,h⟩:=h;exact AWp.le h hy
  | _=>exact h
theorem mid_of {m0:Nat} {st st2:St} {Q:Exit->St->Prop} {τ:Nat->Nat} {ν:List Nat} (h:Le m0 τ ν st st2):midQ m0 st2 Q .normal st:=⟨τ,ν,h⟩
theorem symF_len:∀(n:Nat) (l:List Pos) (a m b:Nat),b - a<=n->(symF l a m b).length=l.length:=by
 intro n
 induction n with
 | zero=>intro l a m b h;rw[symF,if_neg (by omega)]
 | succ n ih =>
  intro l a m b h;rw[symF]
  split
  .split
   .exact shU_len _ _ _
   .split
    .exact shD_len _ _ _
    .dsimp only;generalize srch _ _ _=S;obtain ⟨md,hmd⟩:∃md,(a+b) / 2=md:=⟨_,rfl⟩
     rw[hmd];obtain ⟨l1,hl1⟩:∃l1,(if S<m/\m<md+m - S then rotF m (m - S) (md+m - S - m) l else l)=l1:=⟨_,rfl⟩
     have e1:l1.length=l.length:=by
      rw[<-hl1]
      split
      .exact rotF_len _ _ _ _ _ (Nat.le_refl _)
      .rfl
     rw[hl1];obtain ⟨l2,hl2⟩:∃l2,(if a<S/\S<md then symF l1 a S md else l1)=l2:=⟨_,rfl⟩
     have e2:l2.length=l.length:=by
      rw[<-hl2]
      split
      .rw[ih _ _ _ _ (by omega),e1]
      .exact e1
     rw[hl2]
     split
     .rw[ih _ _ _ _ (by omega),e2]
     .exact e2
  .rfl
def qAQ71:=PLift.up (An @evO_f (An @getD_pR (An @rowAt_p (An @pR_set (An @List.length_map.{0,0} (An @List.length_set.{0} (An @tn1 (An @tnA (An @tnS @Int.toNat_natCast)))))))))
theorem sym_c:∀(n:Nat) (l:List Pos) (N a m b:Nat),b - a<=n->l.length=N->N<=1000000->a<m->m<b->b<=N->∀r,symF l a m b=r ->
 ACall prog 174 [.row 5 (pR l)] [.e (.c (.o 0 N)),I a,I m,I b,fD 43] (.t []) [.row 5 (pR r)]:=by
 intro n
 induction n with
 | zero=>intro l N a m b h1 h2 h3 h4 h5;omega
 | succ n ih =>
 intro l N a m b hn hN hl ham hmb hb r hr;rw[symF,if_pos ⟨ham,hmb⟩]at hr;by_cases h1:m - a=1
 .rw[if_pos h1]at hr;exact sym1_c l N a m b hN hl h1 hmb hb r hr
 rw[if_neg h1]at hr;by_cases h2:b - m=1
 .rw[if_pos h2]at hr;exact sym2_c l N a m b hN hl ham h1 h2 hb r hr
 rw[if_neg h2]at hr;obtain ⟨md,hmd⟩:∃md,(a+b) / 2=md:=⟨_,rfl⟩
 have hmide:=mid_eq a b (by omega);rw[hmd]at hmide hr;dsimp only at hr;obtain ⟨Q,hQ⟩:∃Q:Nat->Bool,(fun c=>!decide (cmpP (l.getD (md+m - 1 - c) default) (l.getD c default)<0))=Q:=⟨_,rfl⟩
 rw[hQ]at hr;obtain ⟨lo0,hlo0⟩:∃x,(if md<m then md+m - b else a)=x:=⟨_,rfl⟩
 obtain ⟨hi0,hhi0⟩:∃x,(if md<m then md else m)=x:=⟨_,rfl⟩
 rw[hlo0,hhi0]at hr
 have hlh:a<=lo0/\lo0<=hi0/\hi0<=md/\hi0<=m/\md+m<=lo0+b/\a<md/\md<b:=by
  rw[<-hlo0,<-hhi0];split<;>omega
 obtain ⟨S,hS⟩:∃S,srch Q lo0 hi0=S:=⟨_,rfl⟩
 have hSb:=srch_bd Q _ lo0 hi0 (Nat.le_refl _) hlh.2.1;rw[hS]at hr hSb;have hq1:True:=trivial;have hq2:True:=trivial;have hq3:True:=trivial;have hq4:True:=trivial;have hrot:True:=trivial;have hrec:True:=trivial;have hmid:=hmide;refine Ac func174 ?_;refine Wo (Own.mk (f:=(oF [42,111,173,174,222,260]))) (An @hq1 (An @hq2 (An @hq3 (An @hq4 (An @hmid qAQ71.1))))) (And.intro (fun u1 u2 u3 u4 u5 u6 u7 u8 u9 u10=>Zd ⟨u1,u2,u3,u4,u5⟩ ⟨u6,u7,u8,u9,u10⟩) (An @hrot @hrec)) ?_;refine Cb ?_ ?_<;>intro hc<;>(try exact ⟨⟩)
 .omega
 .refine Wo (Own.mk (f:=(oF [42,111,173,174,222,260]))) (An @hq1 (An @hq2 (An @hq3 (An @hq4 (An @hmid qAQ71.1))))) (And.intro (fun u1 u2 u3 u4 u5 u6 u7 u8 u9 u10=>Zd ⟨u1,u2,u3,u4,u5⟩ ⟨u6,u7,u8,u9,u10⟩) (An @hrot @hrec)) ?_;refine Cb ?_ ?_<;>intro hc<;>(try exact ⟨⟩)
  .omega
  .refine Wo (Own.mk (f:=(oF [42,111,173,174,222,260]))) (An @hq1 (An @hq2 (An @hq3 (An @hq4 (An @hmid qAQ71.1))))) (And.intro (fun u1 u2 u3 u4 u5 u6 u7 u8 u9 u10=>Zd ⟨u1,u2,u3,u4,u5⟩ ⟨u6,u7,u8,u9,u10⟩) (An @hrot @hrec)) ?_;change AWp _ _ _ _ _ _;refine AWp.join (mkSt [(0,.e (.c (.o 0 N))),(1,I a),(2,I m),(3,I b),(4,fD 43),(18,I md),(19,I ((md:Int)+(m:Int))),(20,I lo0),(21,I hi0)] [(0,.row 5 (pR l))] 1) ?_ ?_
   .by_cases hmm:md<m
    .rw[if_pos hmm]at hlo0 hhi0;refine Cb ?_ ?_<;>intro hc<;>(try exact ⟨⟩)
     .refine Wo (Own.mk (f:=(oF [42,111,173,174,222,260]))) (An @hq1 (An @hq2 (An @hq3 (An @hq4 (An @hmid qAQ71.1))))) (And.intro (fun u1 u2 u3 u4 u5 u6 u7 u8 u9 u10=>Zd ⟨u1,u2,u3,u4,u5⟩ ⟨u6,u7,u8,u9,u10⟩) (An @hrot @hrec)) ?_;refine mid_of (τ:=ren []) (ν:=[]) ?_;refine Le.of (by kernel_rfl) ?_ ?_<;>((refine Lw (An @hq1 (An @hq2 (An @hq3 (An @hq4 (An @hmid qAQ71.1))))) ?_;try exact ⟨⟩);try omega)
     .omega
    .rw[if_neg hmm]at hlo0 hhi0;refine Cb ?_ ?_<;>intro hc<;>(try exact ⟨⟩)
     .omega
     .refine Wo (Own.mk (f:=(oF [42,111,173,174,222,260]))) (An @hq1 (An @hq2 (An @hq3 (An @hq4 (An @hmid qAQ71.1))))) (And.intro (fun u1 u2 u3 u4 u5 u6 u7 u8 u9 u10=>Zd ⟨u1,u2,u3,u4,u5⟩ ⟨u6,u7,u8,u9,u10⟩) (An @hrot @hrec)) ?_;refine mid_of (τ:=ren []) (ν:=[]) ?_;refine Le.of (by kernel_rfl) ?_ ?_<;>((refine Lw (An @hq1 (An @hq2 (An @hq3 (An @hq4 (An @hmid qAQ71.1))))) ?_;try exact ⟨⟩);try omega)
   .clear hmid;have hmid:True:=trivial;refine Wo (Own.mk (f:=(oF [42,111,173,174,222,260]))) (An @hq1 (An @hq2 (An @hq3 (An @hq4 (An @hmid qAQ71.1))))) (And.intro (fun u1 u2 u3 u4 u5 u6 u7 u8 u9 u10=>Zd ⟨u1,u2,u3,u4,u5⟩ ⟨u6,u7,u8,u9,u10⟩) (An @hrot @hrec)) ?_;refine AWp.loop (τ:=ren []) (fun s:Nat×Nat=>mkSt [(0,.e (.c (.o 0 N))),(1,I a),(2,I m),(3,I b),(4,fD 43),(18,I md),(19,I ((md:Int)+(m:Int))),(20,I s.1),(21,I s.2),(22,I ((md:Int)+(m:Int) - 1))] [(0,.row 5 (pR l))] 1) (fun s=>lo0<=s.1/\s.1<=s.2/\s.2<=hi0/\srch Q s.1 s.2=S) (fun s=>s.2 - s.1) (lo0,hi0) ⟨Nat.le_refl _,by dsimp only;omega,Nat.le_refl _,hS⟩ (by refine Le.of (ν:=[]) (by kernel_rfl) ?_ ?_<;>((refine Lw (An @hq1 (An @hq2 (An @hq3 (An @hq4 (An @hmid qAQ71.1))))) ?_;try exact ⟨⟩);try omega)) fun s hs=>?_;obtain ⟨lo,hi⟩:=s;obtain ⟨g1,g2,g3,g4⟩:=hs;dsimp only at g1 g2 g3 g4 ⊢;rw[srch]at g4;by_cases hlt:lo<hi
    .rw[if_pos hlt]at g4;have hmid:=mid_eq lo hi (by omega);obtain ⟨c,hc0⟩:∃c,(lo+hi) / 2=c:=⟨_,rfl⟩
     have hcb:lo<=c/\c<hi:=by omega
     rw[hc0]at hmid g4;clear hc0;have hq4:((md:Int)+(m:Int) - 1 - (c:Int)).toNat=md+m - 1 - c:=by omega
     have hQc:Q c=!decide (cmpP (l.getD (md+m - 1 - c) default) (l.getD c default)<0):=by rw[<-hQ]
     refine Wo (Own.mk (f:=(oF [42,111,173,174,222,260]))) (An @hq1 (An @hq2 (An @hq3 (An @hq4 (An @hmid qAQ71.1))))) (And.intro (fun u1 u2 u3 u4 u5 u6 u7 u8 u9 u10=>Zd ⟨u1,u2,u3,u4,u5⟩ ⟨u6,u7,u8,u9,u10⟩) (An @hrot @hrec)) ?_;refine Cb ?_ ?_<;>intro hc<;>(try exact ⟨⟩)
     .refine Wo (Own.mk (f:=(oF [42,111,173,174,222,260]))) (An @hq1 (An @hq2 (An @hq3 (An @hq4 (An @hmid qAQ71.1))))) (And.intro (fun u1 u2 u3 u4 u5 u6 u7 u8 u9 u10=>Zd ⟨u1,u2,u3,u4,u5⟩ ⟨u6,u7,u8,u9,u10⟩) (An @hrot @hrec)) ?_;refine Cb ?_ ?_<;>intro hc<;>(try exact ⟨⟩)
      .have hc':¬cmpP (l.getD (md+m - 1 - c) default) (l.getD c default)<0:=hc;rw[if_pos (by rw[hQc,decide_eq_false hc'];rfl)]at g4;refine Wo (Own.mk (f:=(oF [42,111,173,174,222,260]))) (An @hq1 (An @hq2 (An @hq3 (An @hq4 (An @hmid qAQ71.1))))) (And.intro (fun u1 u2 u3 u4 u5 u6 u7 u8 u9 u10=>Zd ⟨u1,u2,u3,u4,u5⟩ ⟨u6,u7,u8,u9,u10⟩) (An @hrot @hrec)) ?_;refine Za (τ:=ren []) (ν:=[]) (c+1,hi) ⟨by dsimp only;omega,by dsimp only;omega,g3,g4⟩ (by dsimp only;omega) ?_;refine Le.of (by kernel_rfl) ?_ ?_<;>((refine Lw (An @hq1 (An @hq2 (An @hq3 (An @hq4 (An @hmid qAQ71.1))))) ?_;try exact ⟨⟩);try omega)
      .have hc':cmpP (l.getD (md+m - 1 - c) default) (l.getD c default)<0:=hc;rw[if_neg (by rw[hQc,decide_eq_true hc'];decide)]at g4;refine Wo (Own.mk (f:=(oF [42,111,173,174,222,260]))) (An @hq1 (An @hq2 (An @hq3 (An @hq4 (An @hmid qAQ71.1))))) (And.intro (fun u1 u2 u3 u4 u5 u6 u7 u8 u9 u10=>Zd ⟨u1,u2,u3,u4,u5⟩ ⟨u6,u7,u8,u9,u10⟩) (An @hrot @hrec)) ?_;refine Za (τ:=ren []) (ν:=[]) (lo,c) ⟨g1,by dsimp only;omega,by dsimp only;omega,g4⟩ (by dsimp only;omega) ?_;refine Le.of (by kernel_rfl) ?_ ?_<;>((refine Lw (An @hq1 (An @hq2 (An @hq3 (An @hq4 (An @hmid qAQ71.1))))) ?_;try exact ⟨⟩);try omega)
     .omega
    .rw[if_neg hlt]at g4;subst g4;have hmid:True:=trivial;refine Wo (Own.mk (f:=(oF [42,111,173,174,222,260]))) (An @hq1 (An @hq2 (An @hq3 (An @hq4 (An @hmid qAQ71.1))))) (And.intro (fun u1 u2 u3 u4 u5 u6 u7 u8 u9 u10=>Zd ⟨u1,u2,u3,u4,u5⟩ ⟨u6,u7,u8,u9,u10⟩) (An @hrot @hrec)) ?_;refine Cb ?_ ?_<;>intro hc<;>(try exact ⟨⟩)
     .omega
     .refine Wo (Own.mk (f:=(oF [42,111,173,174,222,260]))) (An @hq1 (An @hq2 (An @hq3 (An @hq4 (An @hmid qAQ71.1))))) (And.intro (fun u1 u2 u3 u4 u5 u6 u7 u8 u9 u10=>Zd ⟨u1,u2,u3,u4,u5⟩ ⟨u6,u7,u8,u9,u10⟩) (An @hrot @hrec)) ?_;obtain ⟨e,he⟩:∃e,md+m - lo=e:=⟨_,rfl⟩
      have hei:(md:Int)+(m:Int) - (lo:Int)=(e:Int):=by omega
      rw[he]at hr;obtain ⟨l1,hl1⟩:∃l1,(if lo<m/\m<e then rotF m (m - lo) (e - m) l else l)=l1:=⟨_,rfl⟩
      rw[hl1]at hr
      have hN1:l1.length=N:=by
       rw[<-hl1];split
       .rw[rotF_len m _ _ _ _ (Nat.le_refl _),hN]
       .exact hN
      obtain ⟨l2,hl2⟩:∃l2,(if a<lo/\lo<md then symF l1 a lo md else l1)=l2:=⟨_,rfl⟩
      rw[hl2]at hr;change AWp _ _ _ _ _ _;refine AWp.join (mkSt [(0,.e (.c (.o 0 N))),(1,I a),(3,I b),(4,fD 43),(18,I md),(20,I lo),(24,I e)] [(0,.row 5 (pR l1))] 1) ?_ ?_
      .by_cases hc1:lo<m/\m<e
       .rw[if_pos hc1]at hl1;have hrot:=rot_c l N lo m e hN hl hc1.1 hc1.2 (by omega) l1 hl1;rw[<-hei]at hrot;refine Cb ?_ ?_<;>intro hc<;>(try exact ⟨⟩)
        .refine Wo (Own.mk (f:=(oF [42,111,173,174,222,260]))) (An @hq1 (An @hq2 (An @hq3 (An @hq4 (An @hmid qAQ71.1))))) (And.intro (fun u1 u2 u3 u4 u5 u6 u7 u8 u9 u10=>Zd ⟨u1,u2,u3,u4,u5⟩ ⟨u6,u7,u8,u9,u10⟩) (An @hrot @hrec)) ?_;refine mid_of (τ:=ren []) (ν:=[]) ?_;refine Le.of (by kernel_rfl) ?_ ?_<;>((refine Lw (An @hq1 (An @hq2 (An @hq3 (An @hq4 (An @hmid qAQ71.1))))) ?_;try exact ⟨⟩);try omega)
        .exfalso;omega
       .rw[if_neg hc1]at hl1;subst hl1;refine Cb ?_ ?_<;>intro hc<;>(try exact ⟨⟩)
        .exfalso;omega
        .refine Wo (Own.mk (f:=(oF [42,111,173,174,222,260]))) (An @hq1 (An @hq2 (An @hq3 (An @hq4 (An @hmid qAQ71.1))))) (And.intro (fun u1 u2 u3 u4 u5 u6 u7 u8 u9 u10=>Zd ⟨u1,u2,u3,u4,u5⟩ ⟨u6,u7,u8,u9,u10⟩) (An @hrot @hrec)) ?_;refine mid_of (τ:=ren []) (ν:=[]) ?_;refine Le.of (by kernel_rfl) ?_ ?_<;>((refine Lw (An @hq1 (An @hq2 (An @hq3 (An @hq4 (An @hmid qAQ71.1))))) ?_;try exact ⟨⟩);try omega)
      .refine Wo (Own.mk (f:=(oF [42,111,173,174,222,260]))) (An @hq1 (An @hq2 (An @hq3 (An @hq4 (An @hmid qAQ71.1))))) (And.intro (fun u1 u2 u3 u4 u5 u6 u7 u8 u9 u10=>Zd ⟨u1,u2,u3,u4,u5⟩ ⟨u6,u7,u8,u9,u10⟩) (An @hrot @hrec)) ?_;change AWp _ _ _ _ _ _
       have hN2:l2.length=N:=by
        rw[<-hl2];split
        .rw[symF_len _ _ _ _ _ (Nat.le_refl _),hN1]
        .exact hN1
       refine AWp.join (mkSt [(0,.e (.c (.o 0 N))),(3,I b),(4,fD 43),(18,I md),(24,I e)] [(0,.row 5 (pR l2))] 1) ?_ ?_
       .by_cases hc1:a<lo/\lo<md
        .rw[if_pos hc1]at hl2;have hrec:=ih l1 N a lo md (by omega) hN1 hl hc1.1 hc1.2 (by omega) l2 hl2;refine Cb ?_ ?_<;>intro hc<;>(try exact ⟨⟩)
         .refine Wo (Own.mk (f:=(oF [42,111,173,174,222,260]))) (An @hq1 (An @hq2 (An @hq3 (An @hq4 (An @hmid qAQ71.1))))) (And.intro (fun u1 u2 u3 u4 u5 u6 u7 u8 u9 u10=>Zd ⟨u1,u2,u3,u4,u5⟩ ⟨u6,u7,u8,u9,u10⟩) (An @hrot @hrec)) ?_;refine mid_of (τ:=ren []) (ν:=[]) ?_;refine Le.of (by kernel_rfl) ?_ ?_<;>((refine Lw (An @hq1 (An @hq2 (An @hq3 (An @hq4 (An @hmid qAQ71.1))))) ?_;try exact ⟨⟩);try omega)
         .exfalso;omega
        .rw[if_neg hc1]at hl2;subst hl2;refine Cb ?_ ?_<;>intro hc<;>(try exact ⟨⟩)
         .exfalso;omega
         .refine Wo (Own.mk (f:=(oF [42,111,173,174,222,260]))) (An @hq1 (An @hq2 (An @hq3 (An @hq4 (An @hmid qAQ71.1))))) (And.intro (fun u1 u2 u3 u4 u5 u6 u7 u8 u9 u10=>Zd ⟨u1,u2,u3,u4,u5⟩ ⟨u6,u7,u8,u9,u10⟩) (An @hrot @hrec)) ?_;refine mid_of (τ:=ren []) (ν:=[]) ?_;refine Le.of (by kernel_rfl) ?_ ?_<;>((refine Lw (An @hq1 (An @hq2 (An @hq3 (An @hq4 (An @hmid qAQ71.1))))) ?_;try exact ⟨⟩);try omega)
       .by_cases hc1:md<e/\e<b
        .rw[if_pos hc1]at hr;have hrec:=ih l2 N md e b (by omega) hN2 hl hc1.1 hc1.2 hb r hr;refine Wo (Own.mk (f:=(oF [42,111,173,174,222,260]))) (An @hq1 (An @hq2 (An @hq3 (An @hq4 (An @hmid qAQ71.1))))) (And.intro (fun u1 u2 u3 u4 u5 u6 u7 u8 u9 u10=>Zd ⟨u1,u2,u3,u4,u5⟩ ⟨u6,u7,u8,u9,u10⟩) (An @hrot @hrec)) ?_;refine Cb ?_ ?_<;>intro hc<;>(try exact ⟨⟩)
         .refine Wo (Own.mk (f:=(oF [42,111,173,174,222,260]))) (An @hq1 (An @hq2 (An @hq3 (An @hq4 (An @hmid qAQ71.1))))) (And.intro (fun u1 u2 u3 u4 u5 u6 u7 u8 u9 u10=>Zd ⟨u1,u2,u3,u4,u5⟩ ⟨u6,u7,u8,u9,u10⟩) (An @hrot @hrec)) ?_;refine Fs @results174 ?_;refine ⟨[0],[],[],by kernel_rfl,?_,?_⟩<;>((refine Lw (An @hq1 (An @hq2 (An @hq3 (An @hq4 (An @hmid qAQ71.1))))) ?_;try exact ⟨⟩);try omega)
         .exfalso;omega
        .rw[if_neg hc1]at hr;subst hr;refine Wo (Own.mk (f:=(oF [42,111,173,174,222,260]))) (An @hq1 (An @hq2 (An @hq3 (An @hq4 (An @hmid qAQ71.1))))) (And.intro (fun u1 u2 u3 u4 u5 u6 u7 u8 u9 u10=>Zd ⟨u1,u2,u3,u4,u5⟩ ⟨u6,u7,u8,u9,u10⟩) (An @hrot @hrec)) ?_;refine Cb ?_ ?_<;>intro hc<;>(try exact ⟨⟩)
         .exfalso;omega
         .refine Wo (Own.mk (f:=(oF [42,111,173,174,222,260]))) (An @hq1 (An @hq2 (An @hq3 (An @hq4 (An @hmid qAQ71.1))))) (And.intro (fun u1 u2 u3 u4 u5 u6 u7 u8 u9 u10=>Zd ⟨u1,u2,u3,u4,u5⟩ ⟨u6,u7,u8,u9,u10⟩) (An @hrot @hrec)) ?_;refine Fs @results174 ?_;refine ⟨[0],[],[],by kernel_rfl,?_,?_⟩<;>((refine Lw (An @hq1 (An @hq2 (An @hq3 (An @hq4 (An @hmid qAQ71.1))))) ?_;try exact ⟨⟩);try omega)
end NA
end Eng
end Go.Proofs.YtgenjpingdkmgaaGreatDoor
