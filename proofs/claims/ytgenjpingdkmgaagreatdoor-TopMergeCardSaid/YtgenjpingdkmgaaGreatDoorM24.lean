/- Contracts of functions that this seat's law calls. No condition. -/
import Derived.Test.YtgenjpingdkmgaaGreatDoorM23
set_option maxRecDepth 100000
set_option linter.unusedSimpArgs false
set_option linter.unusedVariables false
namespace Go.Proofs.YtgenjpingdkmgaaGreatDoor
namespace Eng
namespace NA
def swR (a b:Nat):Nat→Nat→List Pos→List Pos
 | 0,_,l=>l
 | c+1,i,l=>swR a b c (i+1) (swp l (a+i) (b+i))
theorem tnA (a b:Nat):((a:Int)+(b:Int)).toNat=a+b:=by omega
theorem swR_len (a b:Nat):∀(c i:Nat) (l:List Pos),(swR a b c i l).length=l.length
 | 0,_,l=>rfl
 | c+1,i,l=>by unfold swR;rw[swR_len a b c,Z2]
def qAQ31:=PLift.up (An @evO_f (An @getD_pR (An @rowAt_p (An @pR_set (An @List.length_map.{0,0} (An @List.length_set.{0} (An @tn1 (An @tnA @Int.toNat_natCast))))))))
theorem swap_c (l:List Pos) (N a b n:Nat) (hN:l.length=N) (hl:N≤1000000) (ha:a+n≤N) (hb:b+n≤N) (r:List Pos) (hr:swR a b n 0 l=r) :
 ACall Tryz.prog 260 [.row 5 (pR l)] [.e (.c (.o 0 N)),I a,I b,I n,fD 43] (.t []) [.row 5 (pR r)]:=by
 have hq1:True:=trivial
 have hq2:True:=trivial
 have hq3:True:=trivial
 have hq4:True:=trivial
 have hsw:True:=trivial
 refine Ac Tryz.func260 ?_
 refine Wo (Own.mk (f:=(oF [42,111,173,174,222,260]))) (An @hq1 (An @hq2 (An @hq3 (An @hq4 qAQ31.1)))) @hsw ?_
 refine AWp.loop (τ:=ren []) (fun s:Nat×List Pos=>mkSt [(0,.e (.c (.o 0 N))),(1,I a),(2,I b),(3,I n),(10,I s.1)] [(0,.row 5 (pR s.2))] 1) (fun s=>s.1≤n∧s.2.length=N∧swR a b (n - s.1) s.1 s.2=r) (fun s=>n - s.1) (0,l) ⟨Nat.zero_le _,hN,hr⟩ (by refine Le.of (ν:=[]) (by kernel_rfl) ?_ ?_<;>((refine Lv (An @hq1 (An @hq2 (An @hq3 (An @hq4 qAQ31.1)))) fun eE=>?_;first|exact Lw (@Box.out _ eE) trivial|refine Lw (@Box.out _ eE) ?_);try omega)) fun s hs=>?_
 clear hN hr
 obtain ⟨i,m⟩:=s
 obtain ⟨hi,hm,hres⟩:=hs
 dsimp only at hi hm hres ⊢
 by_cases hin:i<n
 ·obtain ⟨x,hx⟩:∃x,m.getD (a+i) default=x:=⟨_,rfl⟩
  obtain ⟨y,hy⟩:∃y,m.getD (b+i) default=y:=⟨_,rfl⟩
  have hq1:=hx
  have hq2:=hy
  have hq3:(m.set (a+i) y).set (b+i) x=swp m (a+i) (b+i):=by unfold swp;rw[hx,hy]
  rw[show n - i=(n - (i+1))+1 by omega,swR]at hres
  refine Wo (Own.mk (f:=(oF [42,111,173,174,222,260]))) (An @hq1 (An @hq2 (An @hq3 (An @hq4 qAQ31.1)))) @hsw ?_
  refine Cc ?_ ?_<;>intro hc<;>(try simp only[Za,ne_eq]at hc)
  ·refine Wo (Own.mk (f:=(oF [42,111,173,174,222,260]))) (An @hq1 (An @hq2 (An @hq3 (An @hq4 qAQ31.1)))) @hsw ?_
   refine Zb (τ:=ren []) (ν:=[]) (i+1,swp m (a+i) (b+i)) ⟨hin,by rw[Z2];exact hm,hres⟩ (by dsimp only;omega) ?_
   refine Le.of (by kernel_rfl) ?_ ?_<;>((refine Lv (An @hq1 (An @hq2 (An @hq3 (An @hq4 qAQ31.1)))) fun eE=>?_;first|exact Lw (@Box.out _ eE) trivial|refine Lw (@Box.out _ eE) ?_);try (first|omega|(rw[pR_store,pR_store,hq3])))
  ·omega
 ·obtain rfl:i=n:=by omega
  rw[Nat.sub_self]at hres
  obtain rfl:m=r:=hres
  refine Wo (Own.mk (f:=(oF [42,111,173,174,222,260]))) (An @hq1 (An @hq2 (An @hq3 (An @hq4 qAQ31.1)))) @hsw ?_
  refine Cc ?_ ?_<;>intro hc<;>(try simp only[Za,ne_eq]at hc)
  ·omega
  ·refine Wo (Own.mk (f:=(oF [42,111,173,174,222,260]))) (An @hq1 (An @hq2 (An @hq3 (An @hq4 qAQ31.1)))) @hsw ?_
   refine Fs @Tryz.results260 ?_
   refine ⟨[0],[],[],by kernel_rfl,?_,?_⟩<;>((refine Lv (An @hq1 (An @hq2 (An @hq3 (An @hq4 qAQ31.1)))) fun eE=>?_;first|exact Lw (@Box.out _ eE) trivial|refine Lw (@Box.out _ eE) ?_);try omega)
def rotF (m i j:Nat) (l:List Pos):List Pos :=
 if i=0∨j=0 then l else
 if i=j then swR (m - i) m i 0 l else
 if j<i then rotF m (i - j) j (swR (m - i) m j 0 l) else rotF m i (j - i) (swR (m - i) (m+j - i) i 0 l)
termination_by i+j
decreasing_by all_goals omega
theorem rot_c (l:List Pos) (N a m b:Nat) (hN:l.length=N) (hl:N≤1000000) (ha:a<m) (hm:m<b) (hb:b≤N) (r:List Pos) (hr:rotF m (m - a) (b - m) l=r) :
 ACall Tryz.prog 222 [.row 5 (pR l)] [.e (.c (.o 0 N)),I a,I m,I b,fD 43] (.t []) [.row 5 (pR r)]:=by
 have hq1:True:=trivial
 have hq2:True:=trivial
 have hq3:True:=trivial
 have hq4:True:=trivial
 have hsw:True:=trivial
 refine Ac Tryz.func222 ?_
 refine Wo (Own.mk (f:=(oF [42,111,173,174,222,260]))) (An @hq1 (An @hq2 (An @hq3 (An @hq4 qAQ31.1)))) @hsw ?_
 refine AWp.loop (τ:=ren []) (fun s:Nat×Nat×List Pos=>mkSt [(0,.e (.c (.o 0 N))),(2,I m),(4,fD 43),(10,I s.1),(11,I s.2.1)] [(0,.row 5 (pR s.2.2))] 1) (fun s=>0<s.1∧0<s.2.1∧s.1≤m∧m+s.2.1≤N∧s.2.2.length=N∧rotF m s.1 s.2.1 s.2.2=r) (fun s=>s.1+s.2.1) (m - a,b - m,l) ⟨by dsimp only;omega,by dsimp only;omega,by dsimp only;omega,by dsimp only;omega,hN,hr⟩ (by refine Le.of (ν:=[]) (by kernel_rfl) ?_ ?_<;>((refine Lv (An @hq1 (An @hq2 (An @hq3 (An @hq4 qAQ31.1)))) fun eE=>?_;first|exact Lw (@Box.out _ eE) trivial|refine Lw (@Box.out _ eE) ?_);try omega)) fun s hs=>?_
 clear hN hr
 obtain ⟨i,j,q⟩:=s
 obtain ⟨hi,hj,him,hjm,hq,hres⟩:=hs
 dsimp only at hi hj him hjm hq hres ⊢
 rw[rotF,if_neg (by omega)]at hres
 by_cases hij:i=j
 ·subst hij
  rw[if_pos rfl]at hres
  have hsw:=swap_c q N (m - i) m i hq hl (by omega) (by omega) r hres
  rw[show ((m - i:Nat):Int)=(m:Int) - (i:Int) by omega]at hsw
  refine Wo (Own.mk (f:=(oF [42,111,173,174,222,260]))) (An @hq1 (An @hq2 (An @hq3 (An @hq4 qAQ31.1)))) @hsw ?_
  refine Cc ?_ ?_<;>intro hc<;>(try simp only[Za,ne_eq]at hc)
  ·contradiction
  ·refine Wo (Own.mk (f:=(oF [42,111,173,174,222,260]))) (An @hq1 (An @hq2 (An @hq3 (An @hq4 qAQ31.1)))) @hsw ?_
   refine Fs @Tryz.results222 ?_
   refine ⟨[0],[],[],by kernel_rfl,?_,?_⟩<;>((refine Lv (An @hq1 (An @hq2 (An @hq3 (An @hq4 qAQ31.1)))) fun eE=>?_;first|exact Lw (@Box.out _ eE) trivial|refine Lw (@Box.out _ eE) ?_);try omega)
 ·rw[if_neg hij]at hres
  by_cases hlt:j<i
  ·rw[if_pos hlt]at hres
   have hsw:=swap_c q N (m - i) m j hq hl (by omega) (by omega) _ rfl
   rw[show ((m - i:Nat):Int)=(m:Int) - (i:Int) by omega]at hsw
   refine Wo (Own.mk (f:=(oF [42,111,173,174,222,260]))) (An @hq1 (An @hq2 (An @hq3 (An @hq4 qAQ31.1)))) @hsw ?_
   refine Cc ?_ ?_<;>intro hc<;>(try simp only[Za,ne_eq]at hc)
   ·refine Wo (Own.mk (f:=(oF [42,111,173,174,222,260]))) (An @hq1 (An @hq2 (An @hq3 (An @hq4 qAQ31.1)))) @hsw ?_
    refine Cc ?_ ?_<;>intro hc<;>(try simp only[Za,ne_eq]at hc)
    ·refine Wo (Own.mk (f:=(oF [42,111,173,174,222,260]))) (An @hq1 (An @hq2 (An @hq3 (An @hq4 qAQ31.1)))) @hsw ?_
     refine Zb (τ:=ren []) (ν:=[]) (i - j,j,swR (m - i) m j 0 q) ⟨by dsimp only;omega,hj,by dsimp only;omega,hjm,by rw[swR_len];exact hq,hres⟩ (by dsimp only;omega) ?_
     refine Le.of (by kernel_rfl) ?_ ?_<;>((refine Lv (An @hq1 (An @hq2 (An @hq3 (An @hq4 qAQ31.1)))) fun eE=>?_;first|exact Lw (@Box.out _ eE) trivial|refine Lw (@Box.out _ eE) ?_);try omega)
    ·omega
   ·omega
  ·rw[if_neg hlt]at hres
   have hsw:=swap_c q N (m - i) (m+j - i) i hq hl (by omega) (by omega) _ rfl
   rw[show ((m - i:Nat):Int)=(m:Int) - (i:Int) by omega,show ((m+j - i:Nat):Int)=(m:Int)+(j:Int) - (i:Int) by omega]at hsw
   refine Wo (Own.mk (f:=(oF [42,111,173,174,222,260]))) (An @hq1 (An @hq2 (An @hq3 (An @hq4 qAQ31.1)))) @hsw ?_
   refine Cc ?_ ?_<;>intro hc<;>(try simp only[Za,ne_eq]at hc)
   ·refine Wo (Own.mk (f:=(oF [42,111,173,174,222,260]))) (An @hq1 (An @hq2 (An @hq3 (An @hq4 qAQ31.1)))) @hsw ?_
    refine Cc ?_ ?_<;>intro hc<;>(try simp only[Za,ne_eq]at hc)
    ·omega
    ·refine Wo (Own.mk (f:=(oF [42,111,173,174,222,260]))) (An @hq1 (An @hq2 (An @hq3 (An @hq4 qAQ31.1)))) @hsw ?_
     refine Zb (τ:=ren []) (ν:=[]) (i,j - i,swR (m - i) (m+j - i) i 0 q) ⟨hi,by dsimp only;omega,him,by dsimp only;omega,by rw[swR_len];exact hq,hres⟩ (by dsimp only;omega) ?_
     refine Le.of (by kernel_rfl) ?_ ?_<;>((refine Lv (An @hq1 (An @hq2 (An @hq3 (An @hq4 qAQ31.1)))) fun eE=>?_;first|exact Lw (@Box.out _ eE) trivial|refine Lw (@Box.out _ eE) ?_);try omega)
   ·omega
end NA
namespace NA
def srch (Q:Nat→Bool) (lo hi:Nat):Nat :=
 if lo<hi then (if Q ((lo+hi) / 2)=true then srch Q ((lo+hi) / 2+1) hi else srch Q lo ((lo+hi) / 2)) else lo
termination_by hi - lo
decreasing_by all_goals omega
theorem srch_bd (Q:Nat→Bool):∀(n lo hi:Nat),hi - lo≤n→lo≤hi→lo≤srch Q lo hi∧srch Q lo hi≤hi:=by
 intro n
 induction n with
 | zero=>intro lo hi h1 h2;rw[srch,if_neg (by omega)];omega
 | succ n ih =>
  intro lo hi h1 h2
  rw[srch]
  split
  ·split
   ·have:=ih ((lo+hi) / 2+1) hi (by omega) (by omega);omega
   ·have:=ih lo ((lo+hi) / 2) (by omega) (by omega);omega
  ·omega
def shU:Nat→Nat→List Pos→List Pos
 | 0,_,l=>l
 | c+1,k,l=>shU c (k+1) (swp l k (k+1))
def shD:Nat→Nat→List Pos→List Pos
 | 0,_,l=>l
 | c+1,k,l=>shD c (k - 1) (swp l k (k - 1))
def symF (l:List Pos) (a m b:Nat):List Pos :=
 if a<m∧m<b then
  if m - a=1 then shU (srch (fun h=>decide (cmpP (l.getD h default) (l.getD a default)<0)) m b - 1 - a) a l else
  if b - m=1 then shD (m - srch (fun h=>!decide (cmpP (l.getD m default) (l.getD h default)<0)) a m) m l else
  let mid:=(a+b) / 2
  let start:=srch (fun c=>!decide (cmpP (l.getD (mid+m - 1 - c) default) (l.getD c default)<0)) (if mid<m then mid+m - b else a) (if mid<m then mid else m)
  let l1:=if start<m∧m<mid+m - start then rotF m (m - start) (mid+m - start - m) l else l
  let l2:=if a<start∧start<mid then symF l1 a start mid else l1
  if mid<mid+m - start∧mid+m - start<b then symF l2 mid (mid+m - start) b else l2
 else l
termination_by b - a
decreasing_by all_goals omega
theorem rotF_len (m:Nat):∀(n i j:Nat) (l:List Pos),i+j≤n→(rotF m i j l).length=l.length:=by
 intro n
 induction n with
 | zero=>intro i j l h;rw[rotF,if_pos (by omega)]
 | succ n ih =>
  intro i j l h
  rw[rotF]
  split
  ·rfl
  ·split
   ·exact swR_len _ _ _ _ _
   ·split
    ·rw[ih _ _ _ (by omega),swR_len]
    ·rw[ih _ _ _ (by omega),swR_len]
theorem shU_len:∀(c k:Nat) (l:List Pos),(shU c k l).length=l.length
 | 0,_,_=>rfl
 | c+1,k,l=>by unfold shU;rw[shU_len c,Z2]
theorem shD_len:∀(c k:Nat) (l:List Pos),(shD c k l).length=l.length
 | 0,_,_=>rfl
 | c+1,k,l=>by unfold shD;rw[shD_len c,Z2]
end NA
namespace NA
theorem tnS (k:Nat):((k:Int)+1 - 1)=(k:Int):=by omega
def qAQ51:=PLift.up (An @evO_f (An @getD_pR (An @rowAt_p (An @pR_set (An @List.length_map.{0,0} (An @List.length_set.{0} (An @tn1 (An @tnA (An @tnS @Int.toNat_natCast)))))))))
theorem sym1_c (l:List Pos) (N a m b:Nat) (hN:l.length=N) (hl:N≤1000000) (ha:m - a=1) (hm:m<b) (hb:b≤N) (r:List Pos)
 (hr:shU (srch (fun h=>decide (cmpP (l.getD h default) (l.getD a default)<0)) m b - 1 - a) a l=r) :
 ACall Tryz.prog 174 [.row 5 (pR l)] [.e (.c (.o 0 N)),I a,I m,I b,fD 43] (.t []) [.row 5 (pR r)]:=by
 have hq1:True:=trivial
 have hq2:True:=trivial
 have hq3:True:=trivial
 have hq4:True:=trivial
 have hmid:True:=trivial
 obtain ⟨Q,hQ⟩:∃Q:Nat→Bool,(fun h=>decide (cmpP (l.getD h default) (l.getD a default)<0))=Q:=⟨_,rfl⟩
 rw[hQ]at hr
 obtain ⟨S,hS⟩:∃S,srch Q m b=S:=⟨_,rfl⟩
 have hSb:=srch_bd Q _ m b (Nat.le_refl _) (by omega)
 rw[hS]at hr hSb
 refine Ac Tryz.func174 ?_
 refine Wo (Own.mk (f:=(oF [42,111,173,174,222,260]))) (An @hq1 (An @hq2 (An @hq3 (An @hq4 (An @hmid qAQ51.1))))) (fun u1 u2 u3 u4 u5 u6 u7 u8 u9 u10=>Ze ⟨u1,u2,u3,u4,u5⟩ ⟨u6,u7,u8,u9,u10⟩) ?_
 refine Cc ?_ ?_<;>intro hc<;>(try simp only[Za,ne_eq]at hc)
 ·refine Wo (Own.mk (f:=(oF [42,111,173,174,222,260]))) (An @hq1 (An @hq2 (An @hq3 (An @hq4 (An @hmid qAQ51.1))))) (fun u1 u2 u3 u4 u5 u6 u7 u8 u9 u10=>Ze ⟨u1,u2,u3,u4,u5⟩ ⟨u6,u7,u8,u9,u10⟩) ?_
  refine AWp.loop (τ:=ren []) (fun s:Nat×Nat=>mkSt [(0,.e (.c (.o 0 N))),(1,I a),(4,fD 43),(10,I s.1),(11,I s.2)] [(0,.row 5 (pR l))] 1) (fun s=>m≤s.1∧s.1≤s.2∧s.2≤b∧srch Q s.1 s.2=S) (fun s=>s.2 - s.1) (m,b) ⟨Nat.le_refl _,by dsimp only;omega,Nat.le_refl _,hS⟩ (by refine Le.of (ν:=[]) (by kernel_rfl) ?_ ?_<;>((refine Lv (An @hq1 (An @hq2 (An @hq3 (An @hq4 (An @hmid qAQ51.1))))) fun eE=>?_;first|exact Lw (@Box.out _ eE) trivial|refine Lw (@Box.out _ eE) ?_);try omega)) fun s hs=>?_
  obtain ⟨lo,hi⟩:=s
  obtain ⟨h1,h2,h3,h4⟩:=hs
  dsimp only at h1 h2 h3 h4 ⊢
  rw[srch]at h4
  by_cases hlt:lo<hi
  ·rw[if_pos hlt]at h4
   have hmid:=mid_eq lo hi (by omega)
   obtain ⟨md,hmd⟩:∃md,(lo+hi) / 2=md:=⟨_,rfl⟩
   have hmb:lo≤md∧md<hi:=by omega
   rw[hmd]at hmid h4
   clear hmd
   have hQm:Q md=decide (cmpP (l.getD md default) (l.getD a default)<0):=by rw[←hQ]
   refine Wo (Own.mk (f:=(oF [42,111,173,174,222,260]))) (An @hq1 (An @hq2 (An @hq3 (An @hq4 (An @hmid qAQ51.1))))) (fun u1 u2 u3 u4 u5 u6 u7 u8 u9 u10=>Ze ⟨u1,u2,u3,u4,u5⟩ ⟨u6,u7,u8,u9,u10⟩) ?_
   refine Cc ?_ ?_<;>intro hc<;>(try simp only[Za,ne_eq]at hc)
   ·refine Wo (Own.mk (f:=(oF [42,111,173,174,222,260]))) (An @hq1 (An @hq2 (An @hq3 (An @hq4 (An @hmid qAQ51.1))))) (fun u1 u2 u3 u4 u5 u6 u7 u8 u9 u10=>Ze ⟨u1,u2,u3,u4,u5⟩ ⟨u6,u7,u8,u9,u10⟩) ?_
    refine Cc ?_ ?_<;>intro hc<;>(try simp only[Za,ne_eq]at hc)
    ·rw[if_pos (by rw[hQm];exact decide_eq_true hc)]at h4
     refine Wo (Own.mk (f:=(oF [42,111,173,174,222,260]))) (An @hq1 (An @hq2 (An @hq3 (An @hq4 (An @hmid qAQ51.1))))) (fun u1 u2 u3 u4 u5 u6 u7 u8 u9 u10=>Ze ⟨u1,u2,u3,u4,u5⟩ ⟨u6,u7,u8,u9,u10⟩) ?_
     refine Zb (τ:=ren []) (ν:=[]) (md+1,hi) ⟨by dsimp only;omega,by dsimp only;omega,h3,h4⟩ (by dsimp only;omega) ?_
     refine Le.of (by kernel_rfl) ?_ ?_<;>((refine Lv (An @hq1 (An @hq2 (An @hq3 (An @hq4 (An @hmid qAQ51.1))))) fun eE=>?_;first|exact Lw (@Box.out _ eE) trivial|refine Lw (@Box.out _ eE) ?_);try omega)
    ·rw[if_neg (by rw[hQm,decide_eq_true_eq];exact hc)]at h4
     refine Wo (Own.mk (f:=(oF [42,111,173,174,222,260]))) (An @hq1 (An @hq2 (An @hq3 (An @hq4 (An @hmid qAQ51.1))))) (fun u1 u2 u3 u4 u5 u6 u7 u8 u9 u10=>Ze ⟨u1,u2,u3,u4,u5⟩ ⟨u6,u7,u8,u9,u10⟩) ?_
     refine Zb (τ:=ren []) (ν:=[]) (lo,md) ⟨h1,by dsimp only;omega,by dsimp only;omega,h4⟩ (by dsimp only;omega) ?_
     refine Le.of (by kernel_rfl) ?_ ?_<;>((refine Lv (An @hq1 (An @hq2 (An @hq3 (An @hq4 (An @hmid qAQ51.1))))) fun eE=>?_;first|exact Lw (@Box.out _ eE) trivial|refine Lw (@Box.out _ eE) ?_);try omega)
   ·omega
  ·rw[if_neg hlt]at h4
   subst h4
   have hmid:True:=trivial
   refine Wo (Own.mk (f:=(oF [42,111,173,174,222,260]))) (An @hq1 (An @hq2 (An @hq3 (An @hq4 (An @hmid qAQ51.1))))) (fun u1 u2 u3 u4 u5 u6 u7 u8 u9 u10=>Ze ⟨u1,u2,u3,u4,u5⟩ ⟨u6,u7,u8,u9,u10⟩) ?_
   refine Cc ?_ ?_<;>intro hc<;>(try simp only[Za,ne_eq]at hc)
   ·omega
   ·refine Wo (Own.mk (f:=(oF [42,111,173,174,222,260]))) (An @hq1 (An @hq2 (An @hq3 (An @hq4 (An @hmid qAQ51.1))))) (fun u1 u2 u3 u4 u5 u6 u7 u8 u9 u10=>Ze ⟨u1,u2,u3,u4,u5⟩ ⟨u6,u7,u8,u9,u10⟩) ?_
    refine AWp.loop (τ:=ren []) (fun s:Nat×List Pos=>mkSt [(0,.e (.c (.o 0 N))),(10,I lo),(13,I s.1)] [(0,.row 5 (pR s.2))] 1) (fun s=>a≤s.1∧s.2.length=N∧shU (lo - 1 - s.1) s.1 s.2=r) (fun s=>lo - s.1) (a,l) ⟨Nat.le_refl _,hN,hr⟩ (by refine Le.of (ν:=[]) (by kernel_rfl) ?_ ?_<;>((refine Lv (An @hq1 (An @hq2 (An @hq3 (An @hq4 (An @hmid qAQ51.1))))) fun eE=>?_;first|exact Lw (@Box.out _ eE) trivial|refine Lw (@Box.out _ eE) ?_);try omega)) fun s hs=>?_
    clear hr hN
    obtain ⟨k,q⟩:=s
    obtain ⟨hk,hq,hres⟩:=hs
    dsimp only at hk hq hres ⊢
    by_cases hkl:k<lo - 1
    ·obtain ⟨x,hx⟩:∃x,q.getD k default=x:=⟨_,rfl⟩
     obtain ⟨y,hy⟩:∃y,q.getD (k+1) default=y:=⟨_,rfl⟩
     have hq1:=hx
     have hq2:=hy
     have hq3:(q.set k y).set (k+1) x=swp q k (k+1):=by unfold swp;rw[hx,hy]
     rw[show lo - 1 - k=(lo - 1 - (k+1))+1 by omega,shU]at hres
     refine Wo (Own.mk (f:=(oF [42,111,173,174,222,260]))) (An @hq1 (An @hq2 (An @hq3 (An @hq4 (An @hmid qAQ51.1))))) (fun u1 u2 u3 u4 u5 u6 u7 u8 u9 u10=>Ze ⟨u1,u2,u3,u4,u5⟩ ⟨u6,u7,u8,u9,u10⟩) ?_
     refine Cc ?_ ?_<;>intro hc<;>(try simp only[Za,ne_eq]at hc)
     ·refine Wo (Own.mk (f:=(oF [42,111,173,174,222,260]))) (An @hq1 (An @hq2 (An @hq3 (An @hq4 (An @hmid qAQ51.1))))) (fun u1 u2 u3 u4 u5 u6 u7 u8 u9 u10=>Ze ⟨u1,u2,u3,u4,u5⟩ ⟨u6,u7,u8,u9,u10⟩) ?_
      refine Zb (τ:=ren []) (ν:=[]) (k+1,swp q k (k+1)) ⟨by dsimp only;omega,by rw[Z2];exact hq,hres⟩ (by dsimp only;omega) ?_
      refine Le.of (by kernel_rfl) ?_ ?_<;>((refine Lv (An @hq1 (An @hq2 (An @hq3 (An @hq4 (An @hmid qAQ51.1))))) fun eE=>?_;first|exact Lw (@Box.out _ eE) trivial|refine Lw (@Box.out _ eE) ?_);try (first|omega|(rw[pR_store,pR_store,hq3])))
     ·omega
    ·rw[show lo - 1 - k=0 by omega]at hres
     obtain rfl:q=r:=hres
     refine Wo (Own.mk (f:=(oF [42,111,173,174,222,260]))) (An @hq1 (An @hq2 (An @hq3 (An @hq4 (An @hmid qAQ51.1))))) (fun u1 u2 u3 u4 u5 u6 u7 u8 u9 u10=>Ze ⟨u1,u2,u3,u4,u5⟩ ⟨u6,u7,u8,u9,u10⟩) ?_
     refine Cc ?_ ?_<;>intro hc<;>(try simp only[Za,ne_eq]at hc)
     ·omega
     ·refine Wo (Own.mk (f:=(oF [42,111,173,174,222,260]))) (An @hq1 (An @hq2 (An @hq3 (An @hq4 (An @hmid qAQ51.1))))) (fun u1 u2 u3 u4 u5 u6 u7 u8 u9 u10=>Ze ⟨u1,u2,u3,u4,u5⟩ ⟨u6,u7,u8,u9,u10⟩) ?_
      refine Fs @Tryz.results174 ?_
      refine ⟨[0],[],[],by kernel_rfl,?_,?_⟩<;>((refine Lv (An @hq1 (An @hq2 (An @hq3 (An @hq4 (An @hmid qAQ51.1))))) fun eE=>?_;first|exact Lw (@Box.out _ eE) trivial|refine Lw (@Box.out _ eE) ?_);try omega)
 ·omega
end NA
namespace NA
def qAQ61:=PLift.up (An @evO_f (An @getD_pR (An @rowAt_p (An @pR_set (An @List.length_map.{0,0} (An @List.length_set.{0} (An @tn1 (An @tnA (An @tnS @Int.toNat_natCast)))))))))
theorem sym2_c (l:List Pos) (N a m b:Nat) (hN:l.length=N) (hl:N≤1000000) (ha:a<m) (ha1:¬m - a=1) (hm:b - m=1) (hb:b≤N) (r:List Pos)
 (hr:shD (m - srch (fun h=>!decide (cmpP (l.getD m default) (l.getD h default)<0)) a m) m l=r) :
 ACall Tryz.prog 174 [.row 5 (pR l)] [.e (.c (.o 0 N)),I a,I m,I b,fD 43] (.t []) [.row 5 (pR r)]:=by
 have hq1:True:=trivial
 have hq2:True:=trivial
 have hq3:True:=trivial
 have hq4:True:=trivial
 have hmid:True:=trivial
 obtain ⟨Q,hQ⟩:∃Q:Nat→Bool,(fun h=>!decide (cmpP (l.getD m default) (l.getD h default)<0))=Q:=⟨_,rfl⟩
 rw[hQ]at hr
 obtain ⟨S,hS⟩:∃S,srch Q a m=S:=⟨_,rfl⟩
 have hSb:=srch_bd Q _ a m (Nat.le_refl _) (by omega)
 rw[hS]at hr hSb
 refine Ac Tryz.func174 ?_
 refine Wo (Own.mk (f:=(oF [42,111,173,174,222,260]))) (An @hq1 (An @hq2 (An @hq3 (An @hq4 (An @hmid qAQ61.1))))) (fun u1 u2 u3 u4 u5 u6 u7 u8 u9 u10=>Ze ⟨u1,u2,u3,u4,u5⟩ ⟨u6,u7,u8,u9,u10⟩) ?_
 refine Cc ?_ ?_<;>intro hc<;>(try simp only[Za,ne_eq]at hc)
 ·omega
 ·refine Wo (Own.mk (f:=(oF [42,111,173,174,222,260]))) (An @hq1 (An @hq2 (An @hq3 (An @hq4 (An @hmid qAQ61.1))))) (fun u1 u2 u3 u4 u5 u6 u7 u8 u9 u10=>Ze ⟨u1,u2,u3,u4,u5⟩ ⟨u6,u7,u8,u9,u10⟩) ?_
  refine Cc ?_ ?_<;>intro hc<;>(try simp only[Za,ne_eq]at hc)
  ·refine Wo (Own.mk (f:=(oF [42,111,173,174,222,260]))) (An @hq1 (An @hq2 (An @hq3 (An @hq4 (An @hmid qAQ61.1))))) (fun u1 u2 u3 u4 u5 u6 u7 u8 u9 u10=>Ze ⟨u1,u2,u3,u4,u5⟩ ⟨u6,u7,u8,u9,u10⟩) ?_
   refine AWp.loop (τ:=ren []) (fun s:Nat×Nat=>mkSt [(0,.e (.c (.o 0 N))),(2,I m),(4,fD 43),(14,I s.1),(15,I s.2)] [(0,.row 5 (pR l))] 1) (fun s=>a≤s.1∧s.1≤s.2∧s.2≤m∧srch Q s.1 s.2=S) (fun s=>s.2 - s.1) (a,m) ⟨Nat.le_refl _,by dsimp only;omega,Nat.le_refl _,hS⟩ (by refine Le.of (ν:=[]) (by kernel_rfl) ?_ ?_<;>((refine Lv (An @hq1 (An @hq2 (An @hq3 (An @hq4 (An @hmid qAQ61.1))))) fun eE=>?_;first|exact Lw (@Box.out _ eE) trivial|refine Lw (@Box.out _ eE) ?_);try omega)) fun s hs=>?_
   obtain ⟨lo,hi⟩:=s
   obtain ⟨h1,h2,h3,h4⟩:=hs
   dsimp only at h1 h2 h3 h4 ⊢
   rw[srch]at h4
   by_cases hlt:lo<hi
   ·rw[if_pos hlt]at h4
    have hmid:=mid_eq lo hi (by omega)
    obtain ⟨md,hmd⟩:∃md,(lo+hi) / 2=md:=⟨_,rfl⟩
    have hmb:lo≤md∧md<hi:=by omega
    rw[hmd]at hmid h4
    clear hmd
    have hQm:Q md=!decide (cmpP (l.getD m default) (l.getD md default)<0):=by rw[←hQ]
    refine Wo (Own.mk (f:=(oF [42,111,173,174,222,260]))) (An @hq1 (An @hq2 (An @hq3 (An @hq4 (An @hmid qAQ61.1))))) (fun u1 u2 u3 u4 u5 u6 u7 u8 u9 u10=>Ze ⟨u1,u2,u3,u4,u5⟩ ⟨u6,u7,u8,u9,u10⟩) ?_
    refine Cc ?_ ?_<;>intro hc<;>(try simp only[Za,ne_eq]at hc)
    ·refine Wo (Own.mk (f:=(oF [42,111,173,174,222,260]))) (An @hq1 (An @hq2 (An @hq3 (An @hq4 (An @hmid qAQ61.1))))) (fun u1 u2 u3 u4 u5 u6 u7 u8 u9 u10=>Ze ⟨u1,u2,u3,u4,u5⟩ ⟨u6,u7,u8,u9,u10⟩) ?_
     refine Cc ?_ ?_<;>intro hc<;>(try simp only[Za,ne_eq]at hc)
     ·have hc':¬cmpP (l.getD m default) (l.getD md default)<0:=hc
      rw[if_pos (by rw[hQm,decide_eq_false hc'];rfl)]at h4
      refine Wo (Own.mk (f:=(oF [42,111,173,174,222,260]))) (An @hq1 (An @hq2 (An @hq3 (An @hq4 (An @hmid qAQ61.1))))) (fun u1 u2 u3 u4 u5 u6 u7 u8 u9 u10=>Ze ⟨u1,u2,u3,u4,u5⟩ ⟨u6,u7,u8,u9,u10⟩) ?_
      refine Zb (τ:=ren []) (ν:=[]) (md+1,hi) ⟨by dsimp only;omega,by dsimp only;omega,h3,h4⟩ (by dsimp only;omega) ?_
      refine Le.of (by kernel_rfl) ?_ ?_<;>((refine Lv (An @hq1 (An @hq2 (An @hq3 (An @hq4 (An @hmid qAQ61.1))))) fun eE=>?_;first|exact Lw (@Box.out _ eE) trivial|refine Lw (@Box.out _ eE) ?_);try omega)
     ·have hc':cmpP (l.getD m default) (l.getD md default)<0:=hc
      rw[if_neg (by rw[hQm,decide_eq_true hc'];decide)]at h4
      refine Wo (Own.mk (f:=(oF [42,111,173,174,222,260]))) (An @hq1 (An @hq2 (An @hq3 (An @hq4 (An @hmid qAQ61.1))))) (fun u1 u2 u3 u4 u5 u6 u7 u8 u9 u10=>Ze ⟨u1,u2,u3,u4,u5⟩ ⟨u6,u7,u8,u9,u10⟩) ?_
      refine Zb (τ:=ren []) (ν:=[]) (lo,md) ⟨h1,by dsimp only;omega,by dsimp only;omega,h4⟩ (by dsimp only;omega) ?_
      refine Le.of (by kernel_rfl) ?_ ?_<;>((refine Lv (An @hq1 (An @hq2 (An @hq3 (An @hq4 (An @hmid qAQ61.1))))) fun eE=>?_;first|exact Lw (@Box.out _ eE) trivial|refine Lw (@Box.out _ eE) ?_);try omega)
    ·omega
   ·rw[if_neg hlt]at h4
    subst h4
    have hmid:True:=trivial
    refine Wo (Own.mk (f:=(oF [42,111,173,174,222,260]))) (An @hq1 (An @hq2 (An @hq3 (An @hq4 (An @hmid qAQ61.1))))) (fun u1 u2 u3 u4 u5 u6 u7 u8 u9 u10=>Ze ⟨u1,u2,u3,u4,u5⟩ ⟨u6,u7,u8,u9,u10⟩) ?_
    refine Cc ?_ ?_<;>intro hc<;>(try simp only[Za,ne_eq]at hc)
    ·omega
    ·refine Wo (Own.mk (f:=(oF [42,111,173,174,222,260]))) (An @hq1 (An @hq2 (An @hq3 (An @hq4 (An @hmid qAQ61.1))))) (fun u1 u2 u3 u4 u5 u6 u7 u8 u9 u10=>Ze ⟨u1,u2,u3,u4,u5⟩ ⟨u6,u7,u8,u9,u10⟩) ?_
     refine AWp.loop (τ:=ren []) (fun s:Nat×List Pos=>mkSt [(0,.e (.c (.o 0 N))),(14,I lo),(17,I s.1)] [(0,.row 5 (pR s.2))] 1) (fun s=>s.1≤m∧s.2.length=N∧shD (s.1 - lo) s.1 s.2=r) (fun s=>s.1) (m,l) ⟨Nat.le_refl _,hN,hr⟩ (by refine Le.of (ν:=[]) (by kernel_rfl) ?_ ?_<;>((refine Lv (An @hq1 (An @hq2 (An @hq3 (An @hq4 (An @hmid qAQ61.1))))) fun eE=>?_;first|exact Lw (@Box.out _ eE) trivial|refine Lw (@Box.out _ eE) ?_);try omega)) fun s hs=>?_
     clear hr hN
     obtain ⟨k,q⟩:=s
     obtain ⟨hk,hq,hres⟩:=hs
     dsimp only at hk hq hres ⊢
     by_cases hkl:lo<k
     ·obtain ⟨k,rfl⟩:∃k',k=k'+1:=⟨k - 1,by omega⟩
      obtain ⟨x,hx⟩:∃x,q.getD (k+1) default=x:=⟨_,rfl⟩
      obtain ⟨y,hy⟩:∃y,q.getD k default=y:=⟨_,rfl⟩
      have hq1:=hx
      have hq2:=hy
      have hq3:(q.set (k+1) y).set k x=swp q (k+1) k:=by unfold swp;rw[hx,hy]
      rw[show k+1 - lo=(k - lo)+1 by omega,shD,Nat.add_sub_cancel]at hres
      rw[show ((k+1:Nat):Int)=(k:Int)+1 by omega]
      refine Wo (Own.mk (f:=(oF [42,111,173,174,222,260]))) (An @hq1 (An @hq2 (An @hq3 (An @hq4 (An @hmid qAQ61.1))))) (fun u1 u2 u3 u4 u5 u6 u7 u8 u9 u10=>Ze ⟨u1,u2,u3,u4,u5⟩ ⟨u6,u7,u8,u9,u10⟩) ?_
      refine Cc ?_ ?_<;>intro hc<;>(try simp only[Za,ne_eq]at hc)
      ·refine Wo (Own.mk (f:=(oF [42,111,173,174,222,260]))) (An @hq1 (An @hq2 (An @hq3 (An @hq4 (An @hmid qAQ61.1))))) (fun u1 u2 u3 u4 u5 u6 u7 u8 u9 u10=>Ze ⟨u1,u2,u3,u4,u5⟩ ⟨u6,u7,u8,u9,u10⟩) ?_
       refine Zb (τ:=ren []) (ν:=[]) (k,swp q (k+1) k) ⟨by dsimp only;omega,by rw[Z2];exact hq,hres⟩ (by dsimp only;omega) ?_
       refine Le.of (by kernel_rfl) ?_ ?_<;>((refine Lv (An @hq1 (An @hq2 (An @hq3 (An @hq4 (An @hmid qAQ61.1))))) fun eE=>?_;first|exact Lw (@Box.out _ eE) trivial|refine Lw (@Box.out _ eE) ?_);try (first|omega|(rw[pR_store,pR_store,hq3])))
      ·omega
     ·rw[show k - lo=0 by omega]at hres
      obtain rfl:q=r:=hres
      refine Wo (Own.mk (f:=(oF [42,111,173,174,222,260]))) (An @hq1 (An @hq2 (An @hq3 (An @hq4 (An @hmid qAQ61.1))))) (fun u1 u2 u3 u4 u5 u6 u7 u8 u9 u10=>Ze ⟨u1,u2,u3,u4,u5⟩ ⟨u6,u7,u8,u9,u10⟩) ?_
      refine Cc ?_ ?_<;>intro hc<;>(try simp only[Za,ne_eq]at hc)
      ·omega
      ·refine Wo (Own.mk (f:=(oF [42,111,173,174,222,260]))) (An @hq1 (An @hq2 (An @hq3 (An @hq4 (An @hmid qAQ61.1))))) (fun u1 u2 u3 u4 u5 u6 u7 u8 u9 u10=>Ze ⟨u1,u2,u3,u4,u5⟩ ⟨u6,u7,u8,u9,u10⟩) ?_
       refine Fs @Tryz.results174 ?_
       refine ⟨[0],[],[],by kernel_rfl,?_,?_⟩<;>((refine Lv (An @hq1 (An @hq2 (An @hq3 (An @hq4 (An @hmid qAQ61.1))))) fun eE=>?_;first|exact Lw (@Box.out _ eE) trivial|refine Lw (@Box.out _ eE) ?_);try omega)
  ·omega
end NA
namespace NA
def midQ (m0:Nat) (st2:St) (Q:Exit→St→Prop):Exit→St→Prop
 | .normal,st=>∃ τ ν,Le m0 τ ν st st2
 | e,st=>Q e st
theorem AWp.join {P:Program} {N m0:Nat} {x y:Code} {Q Q':Exit→St→Prop} {st:St} (st2:St) (hx:AWp P N m0 x (midQ m0 st2 Q) st) (hy:AWp P N m0 y Q' st2):AWp P N m0 x (thenQ (fun st=>AWp P N m0 y Q' st) Q) st :=
 hx.mono fun e s h=>by
  cases e with
  | normal=>obtain ⟨τ,ν,h⟩:=h;exact AWp.le h hy
  | _=>exact h
theorem mid_of {m0:Nat} {st st2:St} {Q:Exit→St→Prop} {τ:Nat→Nat} {ν:List Nat} (h:Le m0 τ ν st st2):midQ m0 st2 Q .normal st:=⟨τ,ν,h⟩
theorem symF_len:∀(n:Nat) (l:List Pos) (a m b:Nat),b - a≤n→(symF l a m b).length=l.length:=by
 intro n
 induction n with
 | zero=>intro l a m b h;rw[symF,if_neg (by omega)]
 | succ n ih =>
  intro l a m b h
  rw[symF]
  split
  ·split
   ·exact shU_len _ _ _
   ·split
    ·exact shD_len _ _ _
    ·dsimp only
     generalize srch _ _ _=S
     obtain ⟨md,hmd⟩:∃md,(a+b) / 2=md:=⟨_,rfl⟩
     rw[hmd]
     obtain ⟨l1,hl1⟩:∃l1,(if S<m∧m<md+m - S then rotF m (m - S) (md+m - S - m) l else l)=l1:=⟨_,rfl⟩
     have e1:l1.length=l.length:=by
      rw[←hl1]
      split
      ·exact rotF_len _ _ _ _ _ (Nat.le_refl _)
      ·rfl
     rw[hl1]
     obtain ⟨l2,hl2⟩:∃l2,(if a<S∧S<md then symF l1 a S md else l1)=l2:=⟨_,rfl⟩
     have e2:l2.length=l.length:=by
      rw[←hl2]
      split
      ·rw[ih _ _ _ _ (by omega),e1]
      ·exact e1
     rw[hl2]
     split
     ·rw[ih _ _ _ _ (by omega),e2]
     ·exact e2
  ·rfl
def qAQ71:=PLift.up (An @evO_f (An @getD_pR (An @rowAt_p (An @pR_set (An @List.length_map.{0,0} (An @List.length_set.{0} (An @tn1 (An @tnA (An @tnS @Int.toNat_natCast)))))))))
theorem sym_c:∀(n:Nat) (l:List Pos) (N a m b:Nat),b - a≤n→l.length=N→N≤1000000→a<m→m<b→b≤N→∀r,symF l a m b=r →
 ACall Tryz.prog 174 [.row 5 (pR l)] [.e (.c (.o 0 N)),I a,I m,I b,fD 43] (.t []) [.row 5 (pR r)]:=by
 intro n
 induction n with
 | zero=>intro l N a m b h1 h2 h3 h4 h5;omega
 | succ n ih =>
 intro l N a m b hn hN hl ham hmb hb r hr
 rw[symF,if_pos ⟨ham,hmb⟩]at hr
 by_cases h1:m - a=1
 ·rw[if_pos h1]at hr
  exact sym1_c l N a m b hN hl h1 hmb hb r hr
 rw[if_neg h1]at hr
 by_cases h2:b - m=1
 ·rw[if_pos h2]at hr
  exact sym2_c l N a m b hN hl ham h1 h2 hb r hr
 rw[if_neg h2]at hr
 obtain ⟨md,hmd⟩:∃md,(a+b) / 2=md:=⟨_,rfl⟩
 have hmide:=mid_eq a b (by omega)
 rw[hmd]at hmide hr
 dsimp only at hr
 obtain ⟨Q,hQ⟩:∃Q:Nat→Bool,(fun c=>!decide (cmpP (l.getD (md+m - 1 - c) default) (l.getD c default)<0))=Q:=⟨_,rfl⟩
 rw[hQ]at hr
 obtain ⟨lo0,hlo0⟩:∃x,(if md<m then md+m - b else a)=x:=⟨_,rfl⟩
 obtain ⟨hi0,hhi0⟩:∃x,(if md<m then md else m)=x:=⟨_,rfl⟩
 rw[hlo0,hhi0]at hr
 have hlh:a≤lo0∧lo0≤hi0∧hi0≤md∧hi0≤m∧md+m≤lo0+b∧a<md∧md<b:=by
  rw[←hlo0,←hhi0];split<;>omega
 obtain ⟨S,hS⟩:∃S,srch Q lo0 hi0=S:=⟨_,rfl⟩
 have hSb:=srch_bd Q _ lo0 hi0 (Nat.le_refl _) hlh.2.1
 rw[hS]at hr hSb
 have hq1:True:=trivial
 have hq2:True:=trivial
 have hq3:True:=trivial
 have hq4:True:=trivial
 have hrot:True:=trivial
 have hrec:True:=trivial
 have hmid:=hmide
 refine Ac Tryz.func174 ?_
 refine Wo (Own.mk (f:=(oF [42,111,173,174,222,260]))) (An @hq1 (An @hq2 (An @hq3 (An @hq4 (An @hmid qAQ71.1))))) (And.intro (fun u1 u2 u3 u4 u5 u6 u7 u8 u9 u10=>Ze ⟨u1,u2,u3,u4,u5⟩ ⟨u6,u7,u8,u9,u10⟩) (An @hrot @hrec)) ?_
 refine Cc ?_ ?_<;>intro hc<;>(try simp only[Za,ne_eq]at hc)
 ·omega
 ·refine Wo (Own.mk (f:=(oF [42,111,173,174,222,260]))) (An @hq1 (An @hq2 (An @hq3 (An @hq4 (An @hmid qAQ71.1))))) (And.intro (fun u1 u2 u3 u4 u5 u6 u7 u8 u9 u10=>Ze ⟨u1,u2,u3,u4,u5⟩ ⟨u6,u7,u8,u9,u10⟩) (An @hrot @hrec)) ?_
  refine Cc ?_ ?_<;>intro hc<;>(try simp only[Za,ne_eq]at hc)
  ·omega
  ·refine Wo (Own.mk (f:=(oF [42,111,173,174,222,260]))) (An @hq1 (An @hq2 (An @hq3 (An @hq4 (An @hmid qAQ71.1))))) (And.intro (fun u1 u2 u3 u4 u5 u6 u7 u8 u9 u10=>Ze ⟨u1,u2,u3,u4,u5⟩ ⟨u6,u7,u8,u9,u10⟩) (An @hrot @hrec)) ?_
   change AWp _ _ _ _ _ _
   refine AWp.join (mkSt [(0,.e (.c (.o 0 N))),(1,I a),(2,I m),(3,I b),(4,fD 43),(18,I md),(19,I ((md:Int)+(m:Int))),(20,I lo0),(21,I hi0)] [(0,.row 5 (pR l))] 1) ?_ ?_
   ·by_cases hmm:md<m
    ·rw[if_pos hmm]at hlo0 hhi0
     refine Cc ?_ ?_<;>intro hc<;>(try simp only[Za,ne_eq]at hc)
     ·refine Wo (Own.mk (f:=(oF [42,111,173,174,222,260]))) (An @hq1 (An @hq2 (An @hq3 (An @hq4 (An @hmid qAQ71.1))))) (And.intro (fun u1 u2 u3 u4 u5 u6 u7 u8 u9 u10=>Ze ⟨u1,u2,u3,u4,u5⟩ ⟨u6,u7,u8,u9,u10⟩) (An @hrot @hrec)) ?_
      refine mid_of (τ:=ren []) (ν:=[]) ?_
      refine Le.of (by kernel_rfl) ?_ ?_<;>((refine Lv (An @hq1 (An @hq2 (An @hq3 (An @hq4 (An @hmid qAQ71.1))))) fun eE=>?_;first|exact Lw (@Box.out _ eE) trivial|refine Lw (@Box.out _ eE) ?_);try omega)
     ·omega
    ·rw[if_neg hmm]at hlo0 hhi0
     refine Cc ?_ ?_<;>intro hc<;>(try simp only[Za,ne_eq]at hc)
     ·omega
     ·refine Wo (Own.mk (f:=(oF [42,111,173,174,222,260]))) (An @hq1 (An @hq2 (An @hq3 (An @hq4 (An @hmid qAQ71.1))))) (And.intro (fun u1 u2 u3 u4 u5 u6 u7 u8 u9 u10=>Ze ⟨u1,u2,u3,u4,u5⟩ ⟨u6,u7,u8,u9,u10⟩) (An @hrot @hrec)) ?_
      refine mid_of (τ:=ren []) (ν:=[]) ?_
      refine Le.of (by kernel_rfl) ?_ ?_<;>((refine Lv (An @hq1 (An @hq2 (An @hq3 (An @hq4 (An @hmid qAQ71.1))))) fun eE=>?_;first|exact Lw (@Box.out _ eE) trivial|refine Lw (@Box.out _ eE) ?_);try omega)
   ·clear hmid
    have hmid:True:=trivial
    refine Wo (Own.mk (f:=(oF [42,111,173,174,222,260]))) (An @hq1 (An @hq2 (An @hq3 (An @hq4 (An @hmid qAQ71.1))))) (And.intro (fun u1 u2 u3 u4 u5 u6 u7 u8 u9 u10=>Ze ⟨u1,u2,u3,u4,u5⟩ ⟨u6,u7,u8,u9,u10⟩) (An @hrot @hrec)) ?_
    refine AWp.loop (τ:=ren []) (fun s:Nat×Nat=>mkSt [(0,.e (.c (.o 0 N))),(1,I a),(2,I m),(3,I b),(4,fD 43),(18,I md),(19,I ((md:Int)+(m:Int))),(20,I s.1),(21,I s.2),(22,I ((md:Int)+(m:Int) - 1))] [(0,.row 5 (pR l))] 1) (fun s=>lo0≤s.1∧s.1≤s.2∧s.2≤hi0∧srch Q s.1 s.2=S) (fun s=>s.2 - s.1) (lo0,hi0) ⟨Nat.le_refl _,by dsimp only;omega,Nat.le_refl _,hS⟩ (by refine Le.of (ν:=[]) (by kernel_rfl) ?_ ?_<;>((refine Lv (An @hq1 (An @hq2 (An @hq3 (An @hq4 (An @hmid qAQ71.1))))) fun eE=>?_;first|exact Lw (@Box.out _ eE) trivial|refine Lw (@Box.out _ eE) ?_);try omega)) fun s hs=>?_
    obtain ⟨lo,hi⟩:=s
    obtain ⟨g1,g2,g3,g4⟩:=hs
    dsimp only at g1 g2 g3 g4 ⊢
    rw[srch]at g4
    by_cases hlt:lo<hi
    ·rw[if_pos hlt]at g4
     have hmid:=mid_eq lo hi (by omega)
     obtain ⟨c,hc0⟩:∃c,(lo+hi) / 2=c:=⟨_,rfl⟩
     have hcb:lo≤c∧c<hi:=by omega
     rw[hc0]at hmid g4
     clear hc0
     have hq4:((md:Int)+(m:Int) - 1 - (c:Int)).toNat=md+m - 1 - c:=by omega
     have hQc:Q c=!decide (cmpP (l.getD (md+m - 1 - c) default) (l.getD c default)<0):=by rw[←hQ]
     refine Wo (Own.mk (f:=(oF [42,111,173,174,222,260]))) (An @hq1 (An @hq2 (An @hq3 (An @hq4 (An @hmid qAQ71.1))))) (And.intro (fun u1 u2 u3 u4 u5 u6 u7 u8 u9 u10=>Ze ⟨u1,u2,u3,u4,u5⟩ ⟨u6,u7,u8,u9,u10⟩) (An @hrot @hrec)) ?_
     refine Cc ?_ ?_<;>intro hc<;>(try simp only[Za,ne_eq]at hc)
     ·refine Wo (Own.mk (f:=(oF [42,111,173,174,222,260]))) (An @hq1 (An @hq2 (An @hq3 (An @hq4 (An @hmid qAQ71.1))))) (And.intro (fun u1 u2 u3 u4 u5 u6 u7 u8 u9 u10=>Ze ⟨u1,u2,u3,u4,u5⟩ ⟨u6,u7,u8,u9,u10⟩) (An @hrot @hrec)) ?_
      refine Cc ?_ ?_<;>intro hc<;>(try simp only[Za,ne_eq]at hc)
      ·have hc':¬cmpP (l.getD (md+m - 1 - c) default) (l.getD c default)<0:=hc
       rw[if_pos (by rw[hQc,decide_eq_false hc'];rfl)]at g4
       refine Wo (Own.mk (f:=(oF [42,111,173,174,222,260]))) (An @hq1 (An @hq2 (An @hq3 (An @hq4 (An @hmid qAQ71.1))))) (And.intro (fun u1 u2 u3 u4 u5 u6 u7 u8 u9 u10=>Ze ⟨u1,u2,u3,u4,u5⟩ ⟨u6,u7,u8,u9,u10⟩) (An @hrot @hrec)) ?_
       refine Zb (τ:=ren []) (ν:=[]) (c+1,hi) ⟨by dsimp only;omega,by dsimp only;omega,g3,g4⟩ (by dsimp only;omega) ?_
       refine Le.of (by kernel_rfl) ?_ ?_<;>((refine Lv (An @hq1 (An @hq2 (An @hq3 (An @hq4 (An @hmid qAQ71.1))))) fun eE=>?_;first|exact Lw (@Box.out _ eE) trivial|refine Lw (@Box.out _ eE) ?_);try omega)
      ·have hc':cmpP (l.getD (md+m - 1 - c) default) (l.getD c default)<0:=hc
       rw[if_neg (by rw[hQc,decide_eq_true hc'];decide)]at g4
       refine Wo (Own.mk (f:=(oF [42,111,173,174,222,260]))) (An @hq1 (An @hq2 (An @hq3 (An @hq4 (An @hmid qAQ71.1))))) (And.intro (fun u1 u2 u3 u4 u5 u6 u7 u8 u9 u10=>Ze ⟨u1,u2,u3,u4,u5⟩ ⟨u6,u7,u8,u9,u10⟩) (An @hrot @hrec)) ?_
       refine Zb (τ:=ren []) (ν:=[]) (lo,c) ⟨g1,by dsimp only;omega,by dsimp only;omega,g4⟩ (by dsimp only;omega) ?_
       refine Le.of (by kernel_rfl) ?_ ?_<;>((refine Lv (An @hq1 (An @hq2 (An @hq3 (An @hq4 (An @hmid qAQ71.1))))) fun eE=>?_;first|exact Lw (@Box.out _ eE) trivial|refine Lw (@Box.out _ eE) ?_);try omega)
     ·omega
    ·rw[if_neg hlt]at g4
     subst g4
     have hmid:True:=trivial
     refine Wo (Own.mk (f:=(oF [42,111,173,174,222,260]))) (An @hq1 (An @hq2 (An @hq3 (An @hq4 (An @hmid qAQ71.1))))) (And.intro (fun u1 u2 u3 u4 u5 u6 u7 u8 u9 u10=>Ze ⟨u1,u2,u3,u4,u5⟩ ⟨u6,u7,u8,u9,u10⟩) (An @hrot @hrec)) ?_
     refine Cc ?_ ?_<;>intro hc<;>(try simp only[Za,ne_eq]at hc)
     ·omega
     ·refine Wo (Own.mk (f:=(oF [42,111,173,174,222,260]))) (An @hq1 (An @hq2 (An @hq3 (An @hq4 (An @hmid qAQ71.1))))) (And.intro (fun u1 u2 u3 u4 u5 u6 u7 u8 u9 u10=>Ze ⟨u1,u2,u3,u4,u5⟩ ⟨u6,u7,u8,u9,u10⟩) (An @hrot @hrec)) ?_
      obtain ⟨e,he⟩:∃e,md+m - lo=e:=⟨_,rfl⟩
      have hei:(md:Int)+(m:Int) - (lo:Int)=(e:Int):=by omega
      rw[he]at hr
      obtain ⟨l1,hl1⟩:∃l1,(if lo<m∧m<e then rotF m (m - lo) (e - m) l else l)=l1:=⟨_,rfl⟩
      rw[hl1]at hr
      have hN1:l1.length=N:=by
       rw[←hl1];split
       ·rw[rotF_len m _ _ _ _ (Nat.le_refl _),hN]
       ·exact hN
      obtain ⟨l2,hl2⟩:∃l2,(if a<lo∧lo<md then symF l1 a lo md else l1)=l2:=⟨_,rfl⟩
      rw[hl2]at hr
      change AWp _ _ _ _ _ _
      refine AWp.join (mkSt [(0,.e (.c (.o 0 N))),(1,I a),(3,I b),(4,fD 43),(18,I md),(20,I lo),(24,I e)] [(0,.row 5 (pR l1))] 1) ?_ ?_
      ·by_cases hc1:lo<m∧m<e
       ·rw[if_pos hc1]at hl1
        have hrot:=rot_c l N lo m e hN hl hc1.1 hc1.2 (by omega) l1 hl1
        rw[←hei]at hrot
        refine Cc ?_ ?_<;>intro hc<;>(try simp only[Za,ne_eq]at hc)
        ·refine Wo (Own.mk (f:=(oF [42,111,173,174,222,260]))) (An @hq1 (An @hq2 (An @hq3 (An @hq4 (An @hmid qAQ71.1))))) (And.intro (fun u1 u2 u3 u4 u5 u6 u7 u8 u9 u10=>Ze ⟨u1,u2,u3,u4,u5⟩ ⟨u6,u7,u8,u9,u10⟩) (An @hrot @hrec)) ?_
         refine mid_of (τ:=ren []) (ν:=[]) ?_
         refine Le.of (by kernel_rfl) ?_ ?_<;>((refine Lv (An @hq1 (An @hq2 (An @hq3 (An @hq4 (An @hmid qAQ71.1))))) fun eE=>?_;first|exact Lw (@Box.out _ eE) trivial|refine Lw (@Box.out _ eE) ?_);try omega)
        ·exfalso;omega
       ·rw[if_neg hc1]at hl1
        subst hl1
        refine Cc ?_ ?_<;>intro hc<;>(try simp only[Za,ne_eq]at hc)
        ·exfalso;omega
        ·refine Wo (Own.mk (f:=(oF [42,111,173,174,222,260]))) (An @hq1 (An @hq2 (An @hq3 (An @hq4 (An @hmid qAQ71.1))))) (And.intro (fun u1 u2 u3 u4 u5 u6 u7 u8 u9 u10=>Ze ⟨u1,u2,u3,u4,u5⟩ ⟨u6,u7,u8,u9,u10⟩) (An @hrot @hrec)) ?_
         refine mid_of (τ:=ren []) (ν:=[]) ?_
         refine Le.of (by kernel_rfl) ?_ ?_<;>((refine Lv (An @hq1 (An @hq2 (An @hq3 (An @hq4 (An @hmid qAQ71.1))))) fun eE=>?_;first|exact Lw (@Box.out _ eE) trivial|refine Lw (@Box.out _ eE) ?_);try omega)
      ·refine Wo (Own.mk (f:=(oF [42,111,173,174,222,260]))) (An @hq1 (An @hq2 (An @hq3 (An @hq4 (An @hmid qAQ71.1))))) (And.intro (fun u1 u2 u3 u4 u5 u6 u7 u8 u9 u10=>Ze ⟨u1,u2,u3,u4,u5⟩ ⟨u6,u7,u8,u9,u10⟩) (An @hrot @hrec)) ?_
       change AWp _ _ _ _ _ _
       have hN2:l2.length=N:=by
        rw[←hl2];split
        ·rw[symF_len _ _ _ _ _ (Nat.le_refl _),hN1]
        ·exact hN1
       refine AWp.join (mkSt [(0,.e (.c (.o 0 N))),(3,I b),(4,fD 43),(18,I md),(24,I e)] [(0,.row 5 (pR l2))] 1) ?_ ?_
       ·by_cases hc1:a<lo∧lo<md
        ·rw[if_pos hc1]at hl2
         have hrec:=ih l1 N a lo md (by omega) hN1 hl hc1.1 hc1.2 (by omega) l2 hl2
         refine Cc ?_ ?_<;>intro hc<;>(try simp only[Za,ne_eq]at hc)
         ·refine Wo (Own.mk (f:=(oF [42,111,173,174,222,260]))) (An @hq1 (An @hq2 (An @hq3 (An @hq4 (An @hmid qAQ71.1))))) (And.intro (fun u1 u2 u3 u4 u5 u6 u7 u8 u9 u10=>Ze ⟨u1,u2,u3,u4,u5⟩ ⟨u6,u7,u8,u9,u10⟩) (An @hrot @hrec)) ?_
          refine mid_of (τ:=ren []) (ν:=[]) ?_
          refine Le.of (by kernel_rfl) ?_ ?_<;>((refine Lv (An @hq1 (An @hq2 (An @hq3 (An @hq4 (An @hmid qAQ71.1))))) fun eE=>?_;first|exact Lw (@Box.out _ eE) trivial|refine Lw (@Box.out _ eE) ?_);try omega)
         ·exfalso;omega
        ·rw[if_neg hc1]at hl2
         subst hl2
         refine Cc ?_ ?_<;>intro hc<;>(try simp only[Za,ne_eq]at hc)
         ·exfalso;omega
         ·refine Wo (Own.mk (f:=(oF [42,111,173,174,222,260]))) (An @hq1 (An @hq2 (An @hq3 (An @hq4 (An @hmid qAQ71.1))))) (And.intro (fun u1 u2 u3 u4 u5 u6 u7 u8 u9 u10=>Ze ⟨u1,u2,u3,u4,u5⟩ ⟨u6,u7,u8,u9,u10⟩) (An @hrot @hrec)) ?_
          refine mid_of (τ:=ren []) (ν:=[]) ?_
          refine Le.of (by kernel_rfl) ?_ ?_<;>((refine Lv (An @hq1 (An @hq2 (An @hq3 (An @hq4 (An @hmid qAQ71.1))))) fun eE=>?_;first|exact Lw (@Box.out _ eE) trivial|refine Lw (@Box.out _ eE) ?_);try omega)
       ·by_cases hc1:md<e∧e<b
        ·rw[if_pos hc1]at hr
         have hrec:=ih l2 N md e b (by omega) hN2 hl hc1.1 hc1.2 hb r hr
         refine Wo (Own.mk (f:=(oF [42,111,173,174,222,260]))) (An @hq1 (An @hq2 (An @hq3 (An @hq4 (An @hmid qAQ71.1))))) (And.intro (fun u1 u2 u3 u4 u5 u6 u7 u8 u9 u10=>Ze ⟨u1,u2,u3,u4,u5⟩ ⟨u6,u7,u8,u9,u10⟩) (An @hrot @hrec)) ?_
         refine Cc ?_ ?_<;>intro hc<;>(try simp only[Za,ne_eq]at hc)
         ·refine Wo (Own.mk (f:=(oF [42,111,173,174,222,260]))) (An @hq1 (An @hq2 (An @hq3 (An @hq4 (An @hmid qAQ71.1))))) (And.intro (fun u1 u2 u3 u4 u5 u6 u7 u8 u9 u10=>Ze ⟨u1,u2,u3,u4,u5⟩ ⟨u6,u7,u8,u9,u10⟩) (An @hrot @hrec)) ?_
          refine Fs @Tryz.results174 ?_
          refine ⟨[0],[],[],by kernel_rfl,?_,?_⟩<;>((refine Lv (An @hq1 (An @hq2 (An @hq3 (An @hq4 (An @hmid qAQ71.1))))) fun eE=>?_;first|exact Lw (@Box.out _ eE) trivial|refine Lw (@Box.out _ eE) ?_);try omega)
         ·exfalso;omega
        ·rw[if_neg hc1]at hr
         subst hr
         refine Wo (Own.mk (f:=(oF [42,111,173,174,222,260]))) (An @hq1 (An @hq2 (An @hq3 (An @hq4 (An @hmid qAQ71.1))))) (And.intro (fun u1 u2 u3 u4 u5 u6 u7 u8 u9 u10=>Ze ⟨u1,u2,u3,u4,u5⟩ ⟨u6,u7,u8,u9,u10⟩) (An @hrot @hrec)) ?_
         refine Cc ?_ ?_<;>intro hc<;>(try simp only[Za,ne_eq]at hc)
         ·exfalso;omega
         ·refine Wo (Own.mk (f:=(oF [42,111,173,174,222,260]))) (An @hq1 (An @hq2 (An @hq3 (An @hq4 (An @hmid qAQ71.1))))) (And.intro (fun u1 u2 u3 u4 u5 u6 u7 u8 u9 u10=>Ze ⟨u1,u2,u3,u4,u5⟩ ⟨u6,u7,u8,u9,u10⟩) (An @hrot @hrec)) ?_
          refine Fs @Tryz.results174 ?_
          refine ⟨[0],[],[],by kernel_rfl,?_,?_⟩<;>((refine Lv (An @hq1 (An @hq2 (An @hq3 (An @hq4 (An @hmid qAQ71.1))))) fun eE=>?_;first|exact Lw (@Box.out _ eE) trivial|refine Lw (@Box.out _ eE) ?_);try omega)
end NA
namespace NA
def insS (a b:Nat) (l:List Pos):List Pos:=insI' a (b - (a+1)) (a+1) l
theorem insI'_len (a:Nat):∀(c i:Nat) (l:List Pos),(insI' a c i l).length=l.length
 | 0,_,_=>rfl
 | c+1,i,l=>by unfold insI';rw[insI'_len a c,insJ_len]
theorem insS_len (a b:Nat) (l:List Pos):(insS a b l).length=l.length:=insI'_len _ _ _ _
def blkF (n a:Nat) (l:List Pos):List Pos:=if a+20≤n then blkF n (a+20) (insS a (a+20) l) else insS a n l
termination_by n - a
decreasing_by omega
def mrgF (n bs a:Nat) (l:List Pos):List Pos :=
 if 0<bs∧a+2*bs≤n then mrgF n bs (a+2*bs) (symF l a (a+bs) (a+2*bs)) else
 if a+bs<n then symF l a (a+bs) n else l
termination_by n - a
decreasing_by omega
def upF (n bs:Nat) (l:List Pos):List Pos:=if 0<bs∧bs<n then upF n (2*bs) (mrgF n bs 0 l) else l
termination_by n - bs
decreasing_by omega
def sortF (l:List Pos):List Pos:=upF l.length 20 (blkF l.length 0 l)
theorem blkF_len (n:Nat):∀(k a:Nat) (l:List Pos),n - a≤k→(blkF n a l).length=l.length:=by
 intro k
 induction k with
 | zero=>intro a l h;rw[blkF,if_neg (by omega),insS_len]
 | succ k ih =>
  intro a l h
  rw[blkF]
  split
  ·rw[ih _ _ (by omega),insS_len]
  ·exact insS_len _ _ _
theorem mrgF_len (n bs:Nat):∀(k a:Nat) (l:List Pos),n - a≤k→(mrgF n bs a l).length=l.length:=by
 intro k
 induction k with
 | zero =>
  intro a l h
  rw[mrgF,if_neg (by omega)]
  split
  ·exact symF_len _ _ _ _ _ (Nat.le_refl _)
  ·rfl
 | succ k ih =>
  intro a l h
  rw[mrgF]
  split
  ·rw[ih _ _ (by omega),symF_len _ _ _ _ _ (Nat.le_refl _)]
  ·split
   ·exact symF_len _ _ _ _ _ (Nat.le_refl _)
   ·rfl
def qAQ81:=PLift.up (An @evO_f (An @List.length_map.{0,0} @Int.toNat_natCast))
theorem stable_c (l:List Pos) (N:Nat) (hN:l.length=N) (hl:N≤100000) (r:List Pos) (hr:upF N 20 (blkF N 0 l)=r) :
 ACall Tryz.prog 111 [.row 5 (pR l)] [.e (.c (.o 0 N)),I N,fD 43] (.t []) [.row 5 (pR r)]:=by
 have hq1:True:=trivial
 have hq2:True:=trivial
 have hq3:True:=trivial
 have hq4:True:=trivial
 have hins:True:=trivial
 have hsym:True:=trivial
 have hst:True:=trivial
 obtain ⟨R1,hR1⟩:∃R1,blkF N 0 l=R1:=⟨_,rfl⟩
 have hR1l:R1.length=N:=by rw[←hR1,blkF_len N _ _ _ (Nat.le_refl _),hN]
 rw[hR1]at hr
 refine Ac Tryz.func111 ?_
 refine Wo (Own.mk (f:=(oF [42,111,173,174,222,260]))) (An @hq1 (An @hq2 (An @hq3 (An @hq4 qAQ81.1)))) (An @hins (An @hsym @hst)) ?_
 refine AWp.loop (τ:=ren []) (fun s:Nat×List Pos=>mkSt [(0,.e (.c (.o 0 N))),(1,I N),(2,fD 43),(6,I 20),(7,I s.1),(8,I ((s.1:Int)+20))] [(0,.row 5 (pR s.2))] 1) (fun s=>s.1≤N∧s.2.length=N∧blkF N s.1 s.2=R1) (fun s=>N - s.1) (0,l) ⟨Nat.zero_le _,hN,hR1⟩ (by refine Le.of (ν:=[]) (by kernel_rfl) ?_ ?_<;>((refine Lv (An @hq1 (An @hq2 (An @hq3 (An @hq4 qAQ81.1)))) fun eE=>?_;first|exact Lw (@Box.out _ eE) trivial|refine Lw (@Box.out _ eE) ?_);try (first|omega|rfl))) fun s hs=>?_
 clear hN hR1
 obtain ⟨a,q⟩:=s
 obtain ⟨ha,hq,hres⟩:=hs
 dsimp only at ha hq hres ⊢
 rw[blkF]at hres
 by_cases hlt:a+20≤N
 ·rw[if_pos hlt]at hres
  have hins:=ins_c q a (a+20) (by omega) ⟨by omega,by omega⟩ _ rfl
  rw[hq,show ((a+20:Nat):Int)=(a:Int)+20 by omega]at hins
  refine Wo (Own.mk (f:=(oF [42,111,173,174,222,260]))) (An @hq1 (An @hq2 (An @hq3 (An @hq4 qAQ81.1)))) (An @hins (An @hsym @hst)) ?_
  refine Cc ?_ ?_<;>intro hc<;>(try simp only[Za,ne_eq]at hc)
  ·refine Wo (Own.mk (f:=(oF [42,111,173,174,222,260]))) (An @hq1 (An @hq2 (An @hq3 (An @hq4 qAQ81.1)))) (An @hins (An @hsym @hst)) ?_
   refine Zb (τ:=ren []) (ν:=[]) (a+20,insS a (a+20) q) ⟨hlt,by rw[insS_len];exact hq,hres⟩ (by dsimp only;omega) ?_
   refine Le.of (by kernel_rfl) ?_ ?_<;>((refine Lv (An @hq1 (An @hq2 (An @hq3 (An @hq4 qAQ81.1)))) fun eE=>?_;first|exact Lw (@Box.out _ eE) trivial|refine Lw (@Box.out _ eE) ?_);try (first|omega|rfl))
  ·omega
 ·rw[if_neg hlt]at hres
  have hins:=ins_c q a N (by omega) ⟨ha,by omega⟩ R1 hres
  rw[hq]at hins
  refine Wo (Own.mk (f:=(oF [42,111,173,174,222,260]))) (An @hq1 (An @hq2 (An @hq3 (An @hq4 qAQ81.1)))) (An @hins (An @hsym @hst)) ?_
  refine Cc ?_ ?_<;>intro hc<;>(try simp only[Za,ne_eq]at hc)
  ·omega
  ·refine Wo (Own.mk (f:=(oF [42,111,173,174,222,260]))) (An @hq1 (An @hq2 (An @hq3 (An @hq4 qAQ81.1)))) (An @hins (An @hsym @hst)) ?_
   refine AWp.loop (τ:=ren []) (fun s:Nat×List Pos=>mkSt [(0,.e (.c (.o 0 N))),(1,I N),(2,fD 43),(6,I s.1)] [(0,.row 5 (pR s.2))] 1) (fun s=>0<s.1∧s.1≤2*N+20∧s.2.length=N∧upF N s.1 s.2=r) (fun s=>N - s.1) (20,R1) ⟨by dsimp only;omega,by dsimp only;omega,hR1l,hr⟩ (by refine Le.of (ν:=[]) (by kernel_rfl) ?_ ?_<;>((refine Lv (An @hq1 (An @hq2 (An @hq3 (An @hq4 qAQ81.1)))) fun eE=>?_;first|exact Lw (@Box.out _ eE) trivial|refine Lw (@Box.out _ eE) ?_);try (first|omega|rfl))) fun s hs=>?_
   clear hr hres hR1l hins hq ha
   have hins:True:=trivial
   obtain ⟨bs,q⟩:=s
   obtain ⟨hb0,hb1,hq,hres⟩:=hs
   dsimp only at hb0 hb1 hq hres ⊢
   rw[upF]at hres
   by_cases hbn:bs<N
   ·rw[if_pos ⟨hb0,hbn⟩]at hres
    obtain ⟨R2,hR2⟩:∃R2,mrgF N bs 0 q=R2:=⟨_,rfl⟩
    have hR2l:R2.length=N:=by rw[←hR2,mrgF_len N bs _ _ _ (Nat.le_refl _),hq]
    rw[hR2]at hres
    refine Wo (Own.mk (f:=(oF [42,111,173,174,222,260]))) (An @hq1 (An @hq2 (An @hq3 (An @hq4 qAQ81.1)))) (An @hins (An @hsym @hst)) ?_
    refine Cc ?_ ?_<;>intro hc<;>(try simp only[Za,ne_eq]at hc)
    ·refine Wo (Own.mk (f:=(oF [42,111,173,174,222,260]))) (An @hq1 (An @hq2 (An @hq3 (An @hq4 qAQ81.1)))) (An @hins (An @hsym @hst)) ?_
     refine AWp.loop (τ:=ren []) (fun s:Nat×List Pos=>mkSt [(0,.e (.c (.o 0 N))),(1,I N),(2,fD 43),(6,I bs),(7,I s.1),(8,I ((s.1:Int)+2*(bs:Int)))] [(0,.row 5 (pR s.2))] 1) (fun s=>s.1≤N∧s.2.length=N∧mrgF N bs s.1 s.2=R2) (fun s=>N - s.1) (0,q) ⟨Nat.zero_le _,hq,hR2⟩ (by refine Le.of (ν:=[]) (by kernel_rfl) ?_ ?_<;>((refine Lv (An @hq1 (An @hq2 (An @hq3 (An @hq4 qAQ81.1)))) fun eE=>?_;first|exact Lw (@Box.out _ eE) trivial|refine Lw (@Box.out _ eE) ?_);try (first|omega|rfl))) fun s hs=>?_
     clear hR2 hq
     obtain ⟨a,q⟩:=s
     obtain ⟨ha,hq,hm⟩:=hs
     dsimp only at ha hq hm ⊢
     rw[mrgF]at hm
     by_cases hlt:a+2*bs≤N
     ·rw[if_pos ⟨hb0,hlt⟩]at hm
      have hsym:=sym_c _ q N a (a+bs) (a+2*bs) (Nat.le_refl _) hq (by omega) (by omega) (by omega) hlt _ rfl
      rw[show ((a+bs:Nat):Int)=(a:Int)+(bs:Int) by omega,show ((a+2*bs:Nat):Int)=(a:Int)+2*(bs:Int) by omega]at hsym
      refine Wo (Own.mk (f:=(oF [42,111,173,174,222,260]))) (An @hq1 (An @hq2 (An @hq3 (An @hq4 qAQ81.1)))) (An @hins (An @hsym @hst)) ?_
      refine Cc ?_ ?_<;>intro hc<;>(try simp only[Za,ne_eq]at hc)
      ·refine Wo (Own.mk (f:=(oF [42,111,173,174,222,260]))) (An @hq1 (An @hq2 (An @hq3 (An @hq4 qAQ81.1)))) (An @hins (An @hsym @hst)) ?_
       refine Zb (τ:=ren []) (ν:=[]) (a+2*bs,symF q a (a+bs) (a+2*bs)) ⟨hlt,by rw[symF_len _ _ _ _ _ (Nat.le_refl _)];exact hq,hm⟩ (by dsimp only;omega) ?_
       refine Le.of (by kernel_rfl) ?_ ?_<;>((refine Lv (An @hq1 (An @hq2 (An @hq3 (An @hq4 qAQ81.1)))) fun eE=>?_;first|exact Lw (@Box.out _ eE) trivial|refine Lw (@Box.out _ eE) ?_);try (first|omega|rfl))
      ·omega
     ·rw[if_neg (fun h=>hlt h.2)]at hm
      by_cases hl2:a+bs<N
      ·rw[if_pos hl2]at hm
       have hsym:=sym_c _ q N a (a+bs) N (Nat.le_refl _) hq (by omega) (by omega) (by omega) (Nat.le_refl _) _ hm
       rw[show ((a+bs:Nat):Int)=(a:Int)+(bs:Int) by omega]at hsym
       refine Wo (Own.mk (f:=(oF [42,111,173,174,222,260]))) (An @hq1 (An @hq2 (An @hq3 (An @hq4 qAQ81.1)))) (An @hins (An @hsym @hst)) ?_
       refine Cc ?_ ?_<;>intro hc<;>(try simp only[Za,ne_eq]at hc)
       ·omega
       ·refine Wo (Own.mk (f:=(oF [42,111,173,174,222,260]))) (An @hq1 (An @hq2 (An @hq3 (An @hq4 qAQ81.1)))) (An @hins (An @hsym @hst)) ?_
        refine Cc ?_ ?_<;>intro hc<;>(try simp only[Za,ne_eq]at hc)
        ·refine Wo (Own.mk (f:=(oF [42,111,173,174,222,260]))) (An @hq1 (An @hq2 (An @hq3 (An @hq4 qAQ81.1)))) (An @hins (An @hsym @hst)) ?_
         refine Zb (τ:=ren []) (ν:=[]) (2*bs,R2) ⟨by dsimp only;omega,by dsimp only;omega,hR2l,hres⟩ (by dsimp only;omega) ?_
         refine Le.of (by kernel_rfl) ?_ ?_<;>((refine Lv (An @hq1 (An @hq2 (An @hq3 (An @hq4 qAQ81.1)))) fun eE=>?_;first|exact Lw (@Box.out _ eE) trivial|refine Lw (@Box.out _ eE) ?_);try (first|omega|rfl))
        ·omega
      ·rw[if_neg hl2]at hm
       subst hm
       refine Wo (Own.mk (f:=(oF [42,111,173,174,222,260]))) (An @hq1 (An @hq2 (An @hq3 (An @hq4 qAQ81.1)))) (An @hins (An @hsym @hst)) ?_
       refine Cc ?_ ?_<;>intro hc<;>(try simp only[Za,ne_eq]at hc)
       ·omega
       ·refine Wo (Own.mk (f:=(oF [42,111,173,174,222,260]))) (An @hq1 (An @hq2 (An @hq3 (An @hq4 qAQ81.1)))) (An @hins (An @hsym @hst)) ?_
        refine Cc ?_ ?_<;>intro hc<;>(try simp only[Za,ne_eq]at hc)
        ·omega
        ·refine Wo (Own.mk (f:=(oF [42,111,173,174,222,260]))) (An @hq1 (An @hq2 (An @hq3 (An @hq4 qAQ81.1)))) (An @hins (An @hsym @hst)) ?_
         refine Zb (τ:=ren []) (ν:=[]) (2*bs,q) ⟨by dsimp only;omega,by dsimp only;omega,hq,hres⟩ (by dsimp only;omega) ?_
         refine Le.of (by kernel_rfl) ?_ ?_<;>((refine Lv (An @hq1 (An @hq2 (An @hq3 (An @hq4 qAQ81.1)))) fun eE=>?_;first|exact Lw (@Box.out _ eE) trivial|refine Lw (@Box.out _ eE) ?_);try (first|omega|rfl))
    ·omega
   ·rw[if_neg (fun h=>hbn h.2)]at hres
    subst hres
    refine Wo (Own.mk (f:=(oF [42,111,173,174,222,260]))) (An @hq1 (An @hq2 (An @hq3 (An @hq4 qAQ81.1)))) (An @hins (An @hsym @hst)) ?_
    refine Cc ?_ ?_<;>intro hc<;>(try simp only[Za,ne_eq]at hc)
    ·omega
    ·refine Wo (Own.mk (f:=(oF [42,111,173,174,222,260]))) (An @hq1 (An @hq2 (An @hq3 (An @hq4 qAQ81.1)))) (An @hins (An @hsym @hst)) ?_
     refine Fs @Tryz.results111 ?_
     refine ⟨[0],[],[],by kernel_rfl,?_,?_⟩<;>((refine Lv (An @hq1 (An @hq2 (An @hq3 (An @hq4 qAQ81.1)))) fun eE=>?_;first|exact Lw (@Box.out _ eE) trivial|refine Lw (@Box.out _ eE) ?_);try omega)
theorem sort_c (l:List Pos) (hl:l.length≤100000) (r:List Pos) (hr:sortF l=r) :
 ACall Tryz.prog 42 [.row 5 (pR l)] [.e (.c (.o 0 l.length)),fD 43] (.t []) [.row 5 (pR r)]:=by
 have hq1:True:=trivial
 have hq2:True:=trivial
 have hq3:True:=trivial
 have hq4:True:=trivial
 have hins:True:=trivial
 have hsym:True:=trivial
 have hst:=stable_c l l.length rfl hl r hr
 refine Ac Tryz.func42 ?_
 refine Wo (Own.mk (f:=(oF [42,111,173,174,222,260]))) (An @hq1 (An @hq2 (An @hq3 (An @hq4 qAQ81.1)))) (An @hins (An @hsym @hst)) ?_
 refine Fs @Tryz.results42 ?_
 refine ⟨[0],[],[],by kernel_rfl,?_,?_⟩<;>((refine Lv (An @hq1 (An @hq2 (An @hq3 (An @hq4 qAQ81.1)))) fun eE=>?_;first|exact Lw (@Box.out _ eE) trivial|refine Lw (@Box.out _ eE) ?_);try omega)
end NA
end Eng
end Go.Proofs.YtgenjpingdkmgaaGreatDoor
