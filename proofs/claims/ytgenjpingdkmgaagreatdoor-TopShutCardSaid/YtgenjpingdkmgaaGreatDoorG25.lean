/- Contracts of functions that this seat's law calls. No condition. -/
import Derived.Test.YtgenjpingdkmgaaGreatDoorG24
set_option maxRecDepth 100000
set_option linter.unusedSimpArgs false
set_option linter.unusedVariables false
open Go.Proofs.Tryz
namespace Go.Proofs.YtgenjpingdkmgaaGreatDoor
namespace Eng
namespace NA
def midQ (m0:Nat) (st2:St) (Q:Exit->St->Prop):Exit->St->Prop
 | .normal,st=>∃ τ ν,Le m0 τ ν st st2
 | e,st=>Q e st
theorem AWp.join {P:Program} {N m0:Nat} {x y:Code} {Q Q':Exit->St->Prop} {st:St} (st2:St) (hx:AWp P N m0 x (midQ m0 st2 Q) st) (hy:AWp P N m0 y Q' st2):AWp P N m0 x (thenQ (fun st=>AWp P N m0 y Q' st) Q) st :=
 hx.mono fun e s h=>by
  cases e with
  | normal=>obtain ⟨τ,ν,h⟩:=h;exact AWp.le h hy
  | _=>exact h
theorem mid_of {m0:Nat} {st st2:St} {Q:Exit->St->Prop} {τ:Nat->Nat} {ν:List Nat} (h:Le m0 τ ν st st2):midQ m0 st2 Q .normal st:=⟨τ,ν,h⟩
theorem symF_len:∀(n:Nat) (l:List Pos) (a m b:Nat),b - a<=n->(symF l a m b).length=l.length:=by
 intro n
 induction n with
 | zero=>intro l a m b h;rw[symF,if_neg (by omega)]
 | succ n ih =>
  intro l a m b h;rw[symF]
  split
  .split
   .exact shU_len _ _ _
   .split
    .exact shD_len _ _ _
    .dsimp only;generalize srch _ _ _=S;obtain ⟨md,hmd⟩:∃md,(a+b) / 2=md:=⟨_,rfl⟩
     rw[hmd];obtain ⟨l1,hl1⟩:∃l1,(if S<m/\m<md+m - S then rotF m (m - S) (md+m - S - m) l else l)=l1:=⟨_,rfl⟩
     have e1:l1.length=l.length:=by
      rw[<-hl1]
      split
      .exact rotF_len _ _ _ _ _ (Nat.le_refl _)
      .rfl
     rw[hl1];obtain ⟨l2,hl2⟩:∃l2,(if a<S/\S<md then symF l1 a S md else l1)=l2:=⟨_,rfl⟩
     have e2:l2.length=l.length:=by
      rw[<-hl2]
      split
      .rw[ih _ _ _ _ (by omega),e1]
      .exact e1
     rw[hl2]
     split
     .rw[ih _ _ _ _ (by omega),e2]
     .exact e2
  .rfl
def qAQ71:=PLift.up (An @evO_f (An @getD_pR (An @rowAt_p (An @pR_set (An @List.length_map.{0,0} (An @List.length_set.{0} (An @tn1 (An @tnA (An @tnS @Int.toNat_natCast)))))))))
theorem sym_c:∀(n:Nat) (l:List Pos) (N a m b:Nat),b - a<=n->l.length=N->N<=1000000->a<m->m<b->b<=N->∀r,symF l a m b=r ->
 ACall prog 174 [.row 5 (pR l)] [.e (.c (.o 0 N)),I a,I m,I b,fD 43] (.t []) [.row 5 (pR r)]:=by
 intro n
 induction n with
 | zero=>intro l N a m b h1 h2 h3 h4 h5;omega
 | succ n ih =>
 intro l N a m b hn hN hl ham hmb hb r hr;rw[symF,if_pos ⟨ham,hmb⟩]at hr;by_cases h1:m - a=1
 .rw[if_pos h1]at hr;exact sym1_c l N a m b hN hl h1 hmb hb r hr
 rw[if_neg h1]at hr;by_cases h2:b - m=1
 .rw[if_pos h2]at hr;exact sym2_c l N a m b hN hl ham h1 h2 hb r hr
 rw[if_neg h2]at hr;obtain ⟨md,hmd⟩:∃md,(a+b) / 2=md:=⟨_,rfl⟩
 have hmide:=mid_eq a b (by omega);rw[hmd]at hmide hr;dsimp only at hr;obtain ⟨Q,hQ⟩:∃Q:Nat->Bool,(fun c=>!decide (cmpP (l.getD (md+m - 1 - c) default) (l.getD c default)<0))=Q:=⟨_,rfl⟩
 rw[hQ]at hr;obtain ⟨lo0,hlo0⟩:∃x,(if md<m then md+m - b else a)=x:=⟨_,rfl⟩
 obtain ⟨hi0,hhi0⟩:∃x,(if md<m then md else m)=x:=⟨_,rfl⟩
 rw[hlo0,hhi0]at hr
 have hlh:a<=lo0/\lo0<=hi0/\hi0<=md/\hi0<=m/\md+m<=lo0+b/\a<md/\md<b:=by
  rw[<-hlo0,<-hhi0];split<;>omega
 obtain ⟨S,hS⟩:∃S,srch Q lo0 hi0=S:=⟨_,rfl⟩
 have hSb:=srch_bd Q _ lo0 hi0 (Nat.le_refl _) hlh.2.1;rw[hS]at hr hSb;have hq1:True:=trivial;have hq2:True:=trivial;have hq3:True:=trivial;have hq4:True:=trivial;have hrot:True:=trivial;have hrec:True:=trivial;have hmid:=hmide;refine Ac func174 ?_;refine Wo (Own.mk (f:=(oF [42,111,173,174,222,260]))) (An @hq1 (An @hq2 (An @hq3 (An @hq4 (An @hmid qAQ71.1))))) (And.intro (fun u1 u2 u3 u4 u5 u6 u7 u8 u9 u10=>Zd ⟨u1,u2,u3,u4,u5⟩ ⟨u6,u7,u8,u9,u10⟩) (An @hrot @hrec)) ?_;refine Cb ?_ ?_<;>intro hc<;>(try exact ⟨⟩)
 .omega
 .refine Wo (Own.mk (f:=(oF [42,111,173,174,222,260]))) (An @hq1 (An @hq2 (An @hq3 (An @hq4 (An @hmid qAQ71.1))))) (And.intro (fun u1 u2 u3 u4 u5 u6 u7 u8 u9 u10=>Zd ⟨u1,u2,u3,u4,u5⟩ ⟨u6,u7,u8,u9,u10⟩) (An @hrot @hrec)) ?_;refine Cb ?_ ?_<;>intro hc<;>(try exact ⟨⟩)
  .omega
  .refine Wo (Own.mk (f:=(oF [42,111,173,174,222,260]))) (An @hq1 (An @hq2 (An @hq3 (An @hq4 (An @hmid qAQ71.1))))) (And.intro (fun u1 u2 u3 u4 u5 u6 u7 u8 u9 u10=>Zd ⟨u1,u2,u3,u4,u5⟩ ⟨u6,u7,u8,u9,u10⟩) (An @hrot @hrec)) ?_;change AWp _ _ _ _ _ _;refine AWp.join (mkSt [(0,.e (.c (.o 0 N))),(1,I a),(2,I m),(3,I b),(4,fD 43),(18,I md),(19,I ((md:Int)+(m:Int))),(20,I lo0),(21,I hi0)] [(0,.row 5 (pR l))] 1) ?_ ?_
   .by_cases hmm:md<m
    .rw[if_pos hmm]at hlo0 hhi0;refine Cb ?_ ?_<;>intro hc<;>(try exact ⟨⟩)
     .refine Wo (Own.mk (f:=(oF [42,111,173,174,222,260]))) (An @hq1 (An @hq2 (An @hq3 (An @hq4 (An @hmid qAQ71.1))))) (And.intro (fun u1 u2 u3 u4 u5 u6 u7 u8 u9 u10=>Zd ⟨u1,u2,u3,u4,u5⟩ ⟨u6,u7,u8,u9,u10⟩) (An @hrot @hrec)) ?_;refine mid_of (τ:=ren []) (ν:=[]) ?_;refine Le.of (by kernel_rfl) ?_ ?_<;>((refine Lw (An @hq1 (An @hq2 (An @hq3 (An @hq4 (An @hmid qAQ71.1))))) ?_;try exact ⟨⟩);try omega)
     .omega
    .rw[if_neg hmm]at hlo0 hhi0;refine Cb ?_ ?_<;>intro hc<;>(try exact ⟨⟩)
     .omega
     .refine Wo (Own.mk (f:=(oF [42,111,173,174,222,260]))) (An @hq1 (An @hq2 (An @hq3 (An @hq4 (An @hmid qAQ71.1))))) (And.intro (fun u1 u2 u3 u4 u5 u6 u7 u8 u9 u10=>Zd ⟨u1,u2,u3,u4,u5⟩ ⟨u6,u7,u8,u9,u10⟩) (An @hrot @hrec)) ?_;refine mid_of (τ:=ren []) (ν:=[]) ?_;refine Le.of (by kernel_rfl) ?_ ?_<;>((refine Lw (An @hq1 (An @hq2 (An @hq3 (An @hq4 (An @hmid qAQ71.1))))) ?_;try exact ⟨⟩);try omega)
   .clear hmid;have hmid:True:=trivial;refine Wo (Own.mk (f:=(oF [42,111,173,174,222,260]))) (An @hq1 (An @hq2 (An @hq3 (An @hq4 (An @hmid qAQ71.1))))) (And.intro (fun u1 u2 u3 u4 u5 u6 u7 u8 u9 u10=>Zd ⟨u1,u2,u3,u4,u5⟩ ⟨u6,u7,u8,u9,u10⟩) (An @hrot @hrec)) ?_;refine AWp.loop (τ:=ren []) (fun s:Nat×Nat=>mkSt [(0,.e (.c (.o 0 N))),(1,I a),(2,I m),(3,I b),(4,fD 43),(18,I md),(19,I ((md:Int)+(m:Int))),(20,I s.1),(21,I s.2),(22,I ((md:Int)+(m:Int) - 1))] [(0,.row 5 (pR l))] 1) (fun s=>lo0<=s.1/\s.1<=s.2/\s.2<=hi0/\srch Q s.1 s.2=S) (fun s=>s.2 - s.1) (lo0,hi0) ⟨Nat.le_refl _,by dsimp only;omega,Nat.le_refl _,hS⟩ (by refine Le.of (ν:=[]) (by kernel_rfl) ?_ ?_<;>((refine Lw (An @hq1 (An @hq2 (An @hq3 (An @hq4 (An @hmid qAQ71.1))))) ?_;try exact ⟨⟩);try omega)) fun s hs=>?_;obtain ⟨lo,hi⟩:=s;obtain ⟨g1,g2,g3,g4⟩:=hs;dsimp only at g1 g2 g3 g4 ⊢;rw[srch]at g4;by_cases hlt:lo<hi
    .rw[if_pos hlt]at g4;have hmid:=mid_eq lo hi (by omega);obtain ⟨c,hc0⟩:∃c,(lo+hi) / 2=c:=⟨_,rfl⟩
     have hcb:lo<=c/\c<hi:=by omega
     rw[hc0]at hmid g4;clear hc0;have hq4:((md:Int)+(m:Int) - 1 - (c:Int)).toNat=md+m - 1 - c:=by omega
     have hQc:Q c=!decide (cmpP (l.getD (md+m - 1 - c) default) (l.getD c default)<0):=by rw[<-hQ]
     refine Wo (Own.mk (f:=(oF [42,111,173,174,222,260]))) (An @hq1 (An @hq2 (An @hq3 (An @hq4 (An @hmid qAQ71.1))))) (And.intro (fun u1 u2 u3 u4 u5 u6 u7 u8 u9 u10=>Zd ⟨u1,u2,u3,u4,u5⟩ ⟨u6,u7,u8,u9,u10⟩) (An @hrot @hrec)) ?_;refine Cb ?_ ?_<;>intro hc<;>(try exact ⟨⟩)
     .refine Wo (Own.mk (f:=(oF [42,111,173,174,222,260]))) (An @hq1 (An @hq2 (An @hq3 (An @hq4 (An @hmid qAQ71.1))))) (And.intro (fun u1 u2 u3 u4 u5 u6 u7 u8 u9 u10=>Zd ⟨u1,u2,u3,u4,u5⟩ ⟨u6,u7,u8,u9,u10⟩) (An @hrot @hrec)) ?_;refine Cb ?_ ?_<;>intro hc<;>(try exact ⟨⟩)
      .have hc':¬cmpP (l.getD (md+m - 1 - c) default) (l.getD c default)<0:=hc;rw[if_pos (by rw[hQc,decide_eq_false hc'];rfl)]at g4;refine Wo (Own.mk (f:=(oF [42,111,173,174,222,260]))) (An @hq1 (An @hq2 (An @hq3 (An @hq4 (An @hmid qAQ71.1))))) (And.intro (fun u1 u2 u3 u4 u5 u6 u7 u8 u9 u10=>Zd ⟨u1,u2,u3,u4,u5⟩ ⟨u6,u7,u8,u9,u10⟩) (An @hrot @hrec)) ?_;refine Za (τ:=ren []) (ν:=[]) (c+1,hi) ⟨by dsimp only;omega,by dsimp only;omega,g3,g4⟩ (by dsimp only;omega) ?_;refine Le.of (by kernel_rfl) ?_ ?_<;>((refine Lw (An @hq1 (An @hq2 (An @hq3 (An @hq4 (An @hmid qAQ71.1))))) ?_;try exact ⟨⟩);try omega)
      .have hc':cmpP (l.getD (md+m - 1 - c) default) (l.getD c default)<0:=hc;rw[if_neg (by rw[hQc,decide_eq_true hc'];decide)]at g4;refine Wo (Own.mk (f:=(oF [42,111,173,174,222,260]))) (An @hq1 (An @hq2 (An @hq3 (An @hq4 (An @hmid qAQ71.1))))) (And.intro (fun u1 u2 u3 u4 u5 u6 u7 u8 u9 u10=>Zd ⟨u1,u2,u3,u4,u5⟩ ⟨u6,u7,u8,u9,u10⟩) (An @hrot @hrec)) ?_;refine Za (τ:=ren []) (ν:=[]) (lo,c) ⟨g1,by dsimp only;omega,by dsimp only;omega,g4⟩ (by dsimp only;omega) ?_;refine Le.of (by kernel_rfl) ?_ ?_<;>((refine Lw (An @hq1 (An @hq2 (An @hq3 (An @hq4 (An @hmid qAQ71.1))))) ?_;try exact ⟨⟩);try omega)
     .omega
    .rw[if_neg hlt]at g4;subst g4;have hmid:True:=trivial;refine Wo (Own.mk (f:=(oF [42,111,173,174,222,260]))) (An @hq1 (An @hq2 (An @hq3 (An @hq4 (An @hmid qAQ71.1))))) (And.intro (fun u1 u2 u3 u4 u5 u6 u7 u8 u9 u10=>Zd ⟨u1,u2,u3,u4,u5⟩ ⟨u6,u7,u8,u9,u10⟩) (An @hrot @hrec)) ?_;refine Cb ?_ ?_<;>intro hc<;>(try exact ⟨⟩)
     .omega
     .refine Wo (Own.mk (f:=(oF [42,111,173,174,222,260]))) (An @hq1 (An @hq2 (An @hq3 (An @hq4 (An @hmid qAQ71.1))))) (And.intro (fun u1 u2 u3 u4 u5 u6 u7 u8 u9 u10=>Zd ⟨u1,u2,u3,u4,u5⟩ ⟨u6,u7,u8,u9,u10⟩) (An @hrot @hrec)) ?_;obtain ⟨e,he⟩:∃e,md+m - lo=e:=⟨_,rfl⟩
      have hei:(md:Int)+(m:Int) - (lo:Int)=(e:Int):=by omega
      rw[he]at hr;obtain ⟨l1,hl1⟩:∃l1,(if lo<m/\m<e then rotF m (m - lo) (e - m) l else l)=l1:=⟨_,rfl⟩
      rw[hl1]at hr
      have hN1:l1.length=N:=by
       rw[<-hl1];split
       .rw[rotF_len m _ _ _ _ (Nat.le_refl _),hN]
       .exact hN
      obtain ⟨l2,hl2⟩:∃l2,(if a<lo/\lo<md then symF l1 a lo md else l1)=l2:=⟨_,rfl⟩
      rw[hl2]at hr;change AWp _ _ _ _ _ _;refine AWp.join (mkSt [(0,.e (.c (.o 0 N))),(1,I a),(3,I b),(4,fD 43),(18,I md),(20,I lo),(24,I e)] [(0,.row 5 (pR l1))] 1) ?_ ?_
      .by_cases hc1:lo<m/\m<e
       .rw[if_pos hc1]at hl1;have hrot:=rot_c l N lo m e hN hl hc1.1 hc1.2 (by omega) l1 hl1;rw[<-hei]at hrot;refine Cb ?_ ?_<;>intro hc<;>(try exact ⟨⟩)
        .refine Wo (Own.mk (f:=(oF [42,111,173,174,222,260]))) (An @hq1 (An @hq2 (An @hq3 (An @hq4 (An @hmid qAQ71.1))))) (And.intro (fun u1 u2 u3 u4 u5 u6 u7 u8 u9 u10=>Zd ⟨u1,u2,u3,u4,u5⟩ ⟨u6,u7,u8,u9,u10⟩) (An @hrot @hrec)) ?_;refine mid_of (τ:=ren []) (ν:=[]) ?_;refine Le.of (by kernel_rfl) ?_ ?_<;>((refine Lw (An @hq1 (An @hq2 (An @hq3 (An @hq4 (An @hmid qAQ71.1))))) ?_;try exact ⟨⟩);try omega)
        .exfalso;omega
       .rw[if_neg hc1]at hl1;subst hl1;refine Cb ?_ ?_<;>intro hc<;>(try exact ⟨⟩)
        .exfalso;omega
        .refine Wo (Own.mk (f:=(oF [42,111,173,174,222,260]))) (An @hq1 (An @hq2 (An @hq3 (An @hq4 (An @hmid qAQ71.1))))) (And.intro (fun u1 u2 u3 u4 u5 u6 u7 u8 u9 u10=>Zd ⟨u1,u2,u3,u4,u5⟩ ⟨u6,u7,u8,u9,u10⟩) (An @hrot @hrec)) ?_;refine mid_of (τ:=ren []) (ν:=[]) ?_;refine Le.of (by kernel_rfl) ?_ ?_<;>((refine Lw (An @hq1 (An @hq2 (An @hq3 (An @hq4 (An @hmid qAQ71.1))))) ?_;try exact ⟨⟩);try omega)
      .refine Wo (Own.mk (f:=(oF [42,111,173,174,222,260]))) (An @hq1 (An @hq2 (An @hq3 (An @hq4 (An @hmid qAQ71.1))))) (And.intro (fun u1 u2 u3 u4 u5 u6 u7 u8 u9 u10=>Zd ⟨u1,u2,u3,u4,u5⟩ ⟨u6,u7,u8,u9,u10⟩) (An @hrot @hrec)) ?_;change AWp _ _ _ _ _ _
       have hN2:l2.length=N:=by
        rw[<-hl2];split
        .rw[symF_len _ _ _ _ _ (Nat.le_refl _),hN1]
        .exact hN1
       refine AWp.join (mkSt [(0,.e (.c (.o 0 N))),(3,I b),(4,fD 43),(18,I md),(24,I e)] [(0,.row 5 (pR l2))] 1) ?_ ?_
       .by_cases hc1:a<lo/\lo<md
        .rw[if_pos hc1]at hl2;have hrec:=ih l1 N a lo md (by omega) hN1 hl hc1.1 hc1.2 (by omega) l2 hl2;refine Cb ?_ ?_<;>intro hc<;>(try exact ⟨⟩)
         .refine Wo (Own.mk (f:=(oF [42,111,173,174,222,260]))) (An @hq1 (An @hq2 (An @hq3 (An @hq4 (An @hmid qAQ71.1))))) (And.intro (fun u1 u2 u3 u4 u5 u6 u7 u8 u9 u10=>Zd ⟨u1,u2,u3,u4,u5⟩ ⟨u6,u7,u8,u9,u10⟩) (An @hrot @hrec)) ?_;refine mid_of (τ:=ren []) (ν:=[]) ?_;refine Le.of (by kernel_rfl) ?_ ?_<;>((refine Lw (An @hq1 (An @hq2 (An @hq3 (An @hq4 (An @hmid qAQ71.1))))) ?_;try exact ⟨⟩);try omega)
         .exfalso;omega
        .rw[if_neg hc1]at hl2;subst hl2;refine Cb ?_ ?_<;>intro hc<;>(try exact ⟨⟩)
         .exfalso;omega
         .refine Wo (Own.mk (f:=(oF [42,111,173,174,222,260]))) (An @hq1 (An @hq2 (An @hq3 (An @hq4 (An @hmid qAQ71.1))))) (And.intro (fun u1 u2 u3 u4 u5 u6 u7 u8 u9 u10=>Zd ⟨u1,u2,u3,u4,u5⟩ ⟨u6,u7,u8,u9,u10⟩) (An @hrot @hrec)) ?_;refine mid_of (τ:=ren []) (ν:=[]) ?_;refine Le.of (by kernel_rfl) ?_ ?_<;>((refine Lw (An @hq1 (An @hq2 (An @hq3 (An @hq4 (An @hmid qAQ71.1))))) ?_;try exact ⟨⟩);try omega)
       .by_cases hc1:md<e/\e<b
        .rw[if_pos hc1]at hr;have hrec:=ih l2 N md e b (by omega) hN2 hl hc1.1 hc1.2 hb r hr;refine Wo (Own.mk (f:=(oF [42,111,173,174,222,260]))) (An @hq1 (An @hq2 (An @hq3 (An @hq4 (An @hmid qAQ71.1))))) (And.intro (fun u1 u2 u3 u4 u5 u6 u7 u8 u9 u10=>Zd ⟨u1,u2,u3,u4,u5⟩ ⟨u6,u7,u8,u9,u10⟩) (An @hrot @hrec)) ?_;refine Cb ?_ ?_<;>intro hc<;>(try exact ⟨⟩)
         .refine Wo (Own.mk (f:=(oF [42,111,173,174,222,260]))) (An @hq1 (An @hq2 (An @hq3 (An @hq4 (An @hmid qAQ71.1))))) (And.intro (fun u1 u2 u3 u4 u5 u6 u7 u8 u9 u10=>Zd ⟨u1,u2,u3,u4,u5⟩ ⟨u6,u7,u8,u9,u10⟩) (An @hrot @hrec)) ?_;refine Fs @results174 ?_;refine ⟨[0],[],[],by kernel_rfl,?_,?_⟩<;>((refine Lw (An @hq1 (An @hq2 (An @hq3 (An @hq4 (An @hmid qAQ71.1))))) ?_;try exact ⟨⟩);try omega)
         .exfalso;omega
        .rw[if_neg hc1]at hr;subst hr;refine Wo (Own.mk (f:=(oF [42,111,173,174,222,260]))) (An @hq1 (An @hq2 (An @hq3 (An @hq4 (An @hmid qAQ71.1))))) (And.intro (fun u1 u2 u3 u4 u5 u6 u7 u8 u9 u10=>Zd ⟨u1,u2,u3,u4,u5⟩ ⟨u6,u7,u8,u9,u10⟩) (An @hrot @hrec)) ?_;refine Cb ?_ ?_<;>intro hc<;>(try exact ⟨⟩)
         .exfalso;omega
         .refine Wo (Own.mk (f:=(oF [42,111,173,174,222,260]))) (An @hq1 (An @hq2 (An @hq3 (An @hq4 (An @hmid qAQ71.1))))) (And.intro (fun u1 u2 u3 u4 u5 u6 u7 u8 u9 u10=>Zd ⟨u1,u2,u3,u4,u5⟩ ⟨u6,u7,u8,u9,u10⟩) (An @hrot @hrec)) ?_;refine Fs @results174 ?_;refine ⟨[0],[],[],by kernel_rfl,?_,?_⟩<;>((refine Lw (An @hq1 (An @hq2 (An @hq3 (An @hq4 (An @hmid qAQ71.1))))) ?_;try exact ⟨⟩);try omega)
end NA
namespace NA
def insS (a b:Nat) (l:List Pos):List Pos:=insI' a (b - (a+1)) (a+1) l
theorem insI'_len (a:Nat):∀(c i:Nat) (l:List Pos),(insI' a c i l).length=l.length
 | 0,_,_=>rfl
 | c+1,i,l=>by unfold insI';rw[insI'_len a c,insJ_len]
theorem insS_len (a b:Nat) (l:List Pos):(insS a b l).length=l.length:=insI'_len _ _ _ _
def blkF (n a:Nat) (l:List Pos):List Pos:=if a+20<=n then blkF n (a+20) (insS a (a+20) l) else insS a n l
termination_by n - a
decreasing_by omega
def mrgF (n bs a:Nat) (l:List Pos):List Pos :=
 if 0<bs/\a+2*bs<=n then mrgF n bs (a+2*bs) (symF l a (a+bs) (a+2*bs)) else
 if a+bs<n then symF l a (a+bs) n else l
termination_by n - a
decreasing_by omega
def upF (n bs:Nat) (l:List Pos):List Pos:=if 0<bs/\bs<n then upF n (2*bs) (mrgF n bs 0 l) else l
termination_by n - bs
decreasing_by omega
def sortF (l:List Pos):List Pos:=upF l.length 20 (blkF l.length 0 l)
theorem blkF_len (n:Nat):∀(k a:Nat) (l:List Pos),n - a<=k->(blkF n a l).length=l.length:=by
 intro k
 induction k with
 | zero=>intro a l h;rw[blkF,if_neg (by omega),insS_len]
 | succ k ih =>
  intro a l h;rw[blkF]
  split
  .rw[ih _ _ (by omega),insS_len]
  .exact insS_len _ _ _
theorem mrgF_len (n bs:Nat):∀(k a:Nat) (l:List Pos),n - a<=k->(mrgF n bs a l).length=l.length:=by
 intro k
 induction k with
 | zero =>
  intro a l h;rw[mrgF,if_neg (by omega)]
  split
  .exact symF_len _ _ _ _ _ (Nat.le_refl _)
  .rfl
 | succ k ih =>
  intro a l h;rw[mrgF]
  split
  .rw[ih _ _ (by omega),symF_len _ _ _ _ _ (Nat.le_refl _)]
  .split
   .exact symF_len _ _ _ _ _ (Nat.le_refl _)
   .rfl
def qAQ81:=PLift.up (An @evO_f (An @List.length_map.{0,0} @Int.toNat_natCast))
theorem stable_c (l:List Pos) (N:Nat) (hN:l.length=N) (hl:N<=100000) (r:List Pos) (hr:upF N 20 (blkF N 0 l)=r) :
 ACall prog 111 [.row 5 (pR l)] [.e (.c (.o 0 N)),I N,fD 43] (.t []) [.row 5 (pR r)]:=by
 have hq1:True:=trivial;have hq2:True:=trivial;have hq3:True:=trivial;have hq4:True:=trivial;have hins:True:=trivial;have hsym:True:=trivial;have hst:True:=trivial;obtain ⟨R1,hR1⟩:∃R1,blkF N 0 l=R1:=⟨_,rfl⟩
 have hR1l:R1.length=N:=by rw[<-hR1,blkF_len N _ _ _ (Nat.le_refl _),hN]
 rw[hR1]at hr;refine Ac func111 ?_;refine Wo (Own.mk (f:=(oF [42,111,173,174,222,260]))) (An @hq1 (An @hq2 (An @hq3 (An @hq4 qAQ81.1)))) (An @hins (An @hsym @hst)) ?_;refine AWp.loop (τ:=ren []) (fun s:Nat×List Pos=>mkSt [(0,.e (.c (.o 0 N))),(1,I N),(2,fD 43),(6,I 20),(7,I s.1),(8,I ((s.1:Int)+20))] [(0,.row 5 (pR s.2))] 1) (fun s=>s.1<=N/\s.2.length=N/\blkF N s.1 s.2=R1) (fun s=>N - s.1) (0,l) ⟨Nat.zero_le _,hN,hR1⟩ (by refine Le.of (ν:=[]) (by kernel_rfl) ?_ ?_<;>((refine Lw (An @hq1 (An @hq2 (An @hq3 (An @hq4 qAQ81.1)))) ?_;try exact ⟨⟩);try (first|omega|rfl))) fun s hs=>?_;clear hN hR1;obtain ⟨a,q⟩:=s;obtain ⟨ha,hq,hres⟩:=hs;dsimp only at ha hq hres ⊢;rw[blkF]at hres;by_cases hlt:a+20<=N
 .rw[if_pos hlt]at hres;have hins:=ins_c q a (a+20) (by omega) ⟨by omega,by omega⟩ _ rfl;rw[hq,show ((a+20:Nat):Int)=(a:Int)+20 by omega]at hins;refine Wo (Own.mk (f:=(oF [42,111,173,174,222,260]))) (An @hq1 (An @hq2 (An @hq3 (An @hq4 qAQ81.1)))) (An @hins (An @hsym @hst)) ?_;refine Cb ?_ ?_<;>intro hc<;>(try exact ⟨⟩)
  .refine Wo (Own.mk (f:=(oF [42,111,173,174,222,260]))) (An @hq1 (An @hq2 (An @hq3 (An @hq4 qAQ81.1)))) (An @hins (An @hsym @hst)) ?_;refine Za (τ:=ren []) (ν:=[]) (a+20,insS a (a+20) q) ⟨hlt,by rw[insS_len];exact hq,hres⟩ (by dsimp only;omega) ?_;refine Le.of (by kernel_rfl) ?_ ?_<;>((refine Lw (An @hq1 (An @hq2 (An @hq3 (An @hq4 qAQ81.1)))) ?_;try exact ⟨⟩);try (first|omega|rfl))
  .omega
 .rw[if_neg hlt]at hres;have hins:=ins_c q a N (by omega) ⟨ha,by omega⟩ R1 hres;rw[hq]at hins;refine Wo (Own.mk (f:=(oF [42,111,173,174,222,260]))) (An @hq1 (An @hq2 (An @hq3 (An @hq4 qAQ81.1)))) (An @hins (An @hsym @hst)) ?_;refine Cb ?_ ?_<;>intro hc<;>(try exact ⟨⟩)
  .omega
  .refine Wo (Own.mk (f:=(oF [42,111,173,174,222,260]))) (An @hq1 (An @hq2 (An @hq3 (An @hq4 qAQ81.1)))) (An @hins (An @hsym @hst)) ?_;refine AWp.loop (τ:=ren []) (fun s:Nat×List Pos=>mkSt [(0,.e (.c (.o 0 N))),(1,I N),(2,fD 43),(6,I s.1)] [(0,.row 5 (pR s.2))] 1) (fun s=>0<s.1/\s.1<=2*N+20/\s.2.length=N/\upF N s.1 s.2=r) (fun s=>N - s.1) (20,R1) ⟨by dsimp only;omega,by dsimp only;omega,hR1l,hr⟩ (by refine Le.of (ν:=[]) (by kernel_rfl) ?_ ?_<;>((refine Lw (An @hq1 (An @hq2 (An @hq3 (An @hq4 qAQ81.1)))) ?_;try exact ⟨⟩);try (first|omega|rfl))) fun s hs=>?_;clear hr hres hR1l hins hq ha;have hins:True:=trivial;obtain ⟨bs,q⟩:=s;obtain ⟨hb0,hb1,hq,hres⟩:=hs;dsimp only at hb0 hb1 hq hres ⊢;rw[upF]at hres;by_cases hbn:bs<N
   .rw[if_pos ⟨hb0,hbn⟩]at hres;obtain ⟨R2,hR2⟩:∃R2,mrgF N bs 0 q=R2:=⟨_,rfl⟩
    have hR2l:R2.length=N:=by rw[<-hR2,mrgF_len N bs _ _ _ (Nat.le_refl _),hq]
    rw[hR2]at hres;refine Wo (Own.mk (f:=(oF [42,111,173,174,222,260]))) (An @hq1 (An @hq2 (An @hq3 (An @hq4 qAQ81.1)))) (An @hins (An @hsym @hst)) ?_;refine Cb ?_ ?_<;>intro hc<;>(try exact ⟨⟩)
    .refine Wo (Own.mk (f:=(oF [42,111,173,174,222,260]))) (An @hq1 (An @hq2 (An @hq3 (An @hq4 qAQ81.1)))) (An @hins (An @hsym @hst)) ?_;refine AWp.loop (τ:=ren []) (fun s:Nat×List Pos=>mkSt [(0,.e (.c (.o 0 N))),(1,I N),(2,fD 43),(6,I bs),(7,I s.1),(8,I ((s.1:Int)+2*(bs:Int)))] [(0,.row 5 (pR s.2))] 1) (fun s=>s.1<=N/\s.2.length=N/\mrgF N bs s.1 s.2=R2) (fun s=>N - s.1) (0,q) ⟨Nat.zero_le _,hq,hR2⟩ (by refine Le.of (ν:=[]) (by kernel_rfl) ?_ ?_<;>((refine Lw (An @hq1 (An @hq2 (An @hq3 (An @hq4 qAQ81.1)))) ?_;try exact ⟨⟩);try (first|omega|rfl))) fun s hs=>?_;clear hR2 hq;obtain ⟨a,q⟩:=s;obtain ⟨ha,hq,hm⟩:=hs;dsimp only at ha hq hm ⊢;rw[mrgF]at hm;by_cases hlt:a+2*bs<=N
     .rw[if_pos ⟨hb0,hlt⟩]at hm;have hsym:=sym_c _ q N a (a+bs) (a+2*bs) (Nat.le_refl _) hq (by omega) (by omega) (by omega) hlt _ rfl;rw[show ((a+bs:Nat):Int)=(a:Int)+(bs:Int) by omega,show ((a+2*bs:Nat):Int)=(a:Int)+2*(bs:Int) by omega]at hsym;refine Wo (Own.mk (f:=(oF [42,111,173,174,222,260]))) (An @hq1 (An @hq2 (An @hq3 (An @hq4 qAQ81.1)))) (An @hins (An @hsym @hst)) ?_;refine Cb ?_ ?_<;>intro hc<;>(try exact ⟨⟩)
      .refine Wo (Own.mk (f:=(oF [42,111,173,174,222,260]))) (An @hq1 (An @hq2 (An @hq3 (An @hq4 qAQ81.1)))) (An @hins (An @hsym @hst)) ?_;refine Za (τ:=ren []) (ν:=[]) (a+2*bs,symF q a (a+bs) (a+2*bs)) ⟨hlt,by rw[symF_len _ _ _ _ _ (Nat.le_refl _)];exact hq,hm⟩ (by dsimp only;omega) ?_;refine Le.of (by kernel_rfl) ?_ ?_<;>((refine Lw (An @hq1 (An @hq2 (An @hq3 (An @hq4 qAQ81.1)))) ?_;try exact ⟨⟩);try (first|omega|rfl))
      .omega
     .rw[if_neg (fun h=>hlt h.2)]at hm;by_cases hl2:a+bs<N
      .rw[if_pos hl2]at hm;have hsym:=sym_c _ q N a (a+bs) N (Nat.le_refl _) hq (by omega) (by omega) (by omega) (Nat.le_refl _) _ hm;rw[show ((a+bs:Nat):Int)=(a:Int)+(bs:Int) by omega]at hsym;refine Wo (Own.mk (f:=(oF [42,111,173,174,222,260]))) (An @hq1 (An @hq2 (An @hq3 (An @hq4 qAQ81.1)))) (An @hins (An @hsym @hst)) ?_;refine Cb ?_ ?_<;>intro hc<;>(try exact ⟨⟩)
       .omega
       .refine Wo (Own.mk (f:=(oF [42,111,173,174,222,260]))) (An @hq1 (An @hq2 (An @hq3 (An @hq4 qAQ81.1)))) (An @hins (An @hsym @hst)) ?_;refine Cb ?_ ?_<;>intro hc<;>(try exact ⟨⟩)
        .refine Wo (Own.mk (f:=(oF [42,111,173,174,222,260]))) (An @hq1 (An @hq2 (An @hq3 (An @hq4 qAQ81.1)))) (An @hins (An @hsym @hst)) ?_;refine Za (τ:=ren []) (ν:=[]) (2*bs,R2) ⟨by dsimp only;omega,by dsimp only;omega,hR2l,hres⟩ (by dsimp only;omega) ?_;refine Le.of (by kernel_rfl) ?_ ?_<;>((refine Lw (An @hq1 (An @hq2 (An @hq3 (An @hq4 qAQ81.1)))) ?_;try exact ⟨⟩);try (first|omega|rfl))
        .omega
      .rw[if_neg hl2]at hm;subst hm;refine Wo (Own.mk (f:=(oF [42,111,173,174,222,260]))) (An @hq1 (An @hq2 (An @hq3 (An @hq4 qAQ81.1)))) (An @hins (An @hsym @hst)) ?_;refine Cb ?_ ?_<;>intro hc<;>(try exact ⟨⟩)
       .omega
       .refine Wo (Own.mk (f:=(oF [42,111,173,174,222,260]))) (An @hq1 (An @hq2 (An @hq3 (An @hq4 qAQ81.1)))) (An @hins (An @hsym @hst)) ?_;refine Cb ?_ ?_<;>intro hc<;>(try exact ⟨⟩)
        .omega
        .refine Wo (Own.mk (f:=(oF [42,111,173,174,222,260]))) (An @hq1 (An @hq2 (An @hq3 (An @hq4 qAQ81.1)))) (An @hins (An @hsym @hst)) ?_;refine Za (τ:=ren []) (ν:=[]) (2*bs,q) ⟨by dsimp only;omega,by dsimp only;omega,hq,hres⟩ (by dsimp only;omega) ?_;refine Le.of (by kernel_rfl) ?_ ?_<;>((refine Lw (An @hq1 (An @hq2 (An @hq3 (An @hq4 qAQ81.1)))) ?_;try exact ⟨⟩);try (first|omega|rfl))
    .omega
   .rw[if_neg (fun h=>hbn h.2)]at hres;subst hres;refine Wo (Own.mk (f:=(oF [42,111,173,174,222,260]))) (An @hq1 (An @hq2 (An @hq3 (An @hq4 qAQ81.1)))) (An @hins (An @hsym @hst)) ?_;refine Cb ?_ ?_<;>intro hc<;>(try exact ⟨⟩)
    .omega
    .refine Wo (Own.mk (f:=(oF [42,111,173,174,222,260]))) (An @hq1 (An @hq2 (An @hq3 (An @hq4 qAQ81.1)))) (An @hins (An @hsym @hst)) ?_;refine Fs @results111 ?_;refine ⟨[0],[],[],by kernel_rfl,?_,?_⟩<;>((refine Lw (An @hq1 (An @hq2 (An @hq3 (An @hq4 qAQ81.1)))) ?_;try exact ⟨⟩);try omega)
theorem sort_c (l:List Pos) (hl:l.length<=100000) (r:List Pos) (hr:sortF l=r) :
 ACall prog 42 [.row 5 (pR l)] [.e (.c (.o 0 l.length)),fD 43] (.t []) [.row 5 (pR r)]:=by
 have hq1:True:=trivial;have hq2:True:=trivial;have hq3:True:=trivial;have hq4:True:=trivial;have hins:True:=trivial;have hsym:True:=trivial;have hst:=stable_c l l.length rfl hl r hr;refine Ac func42 ?_;refine Wo (Own.mk (f:=(oF [42,111,173,174,222,260]))) (An @hq1 (An @hq2 (An @hq3 (An @hq4 qAQ81.1)))) (An @hins (An @hsym @hst)) ?_;refine Fs @results42 ?_;refine ⟨[0],[],[],by kernel_rfl,?_,?_⟩<;>((refine Lw (An @hq1 (An @hq2 (An @hq3 (An @hq4 qAQ81.1)))) ?_;try exact ⟨⟩);try omega)
end NA
namespace NA
theorem swp_perm {l:List Pos} {i j:Nat} (h1:i<l.length) (h2:j<l.length):(swp l i j).Perm l:=by
 unfold swp;rw[List.getD_eq_getElem?_getD,List.getD_eq_getElem?_getD,List.getElem?_eq_getElem h1,List.getElem?_eq_getElem h2];exact List.set_set_perm h1 h2
theorem insJ_perm (a:Nat):∀(j:Nat) (l:List Pos),j<l.length->(insJ a j l).Perm l
 | 0,l,_=>List.Perm.refl _
 | j+1,l,h=>by
  unfold insJ
  split
  .exact (insJ_perm a j _ (by rw[Z2];omega)).trans (swp_perm h (by omega))
  .exact List.Perm.refl _
theorem insI'_perm (a:Nat):∀(c i:Nat) (l:List Pos),i+c<=l.length->(insI' a c i l).Perm l
 | 0,_,l,_=>List.Perm.refl _
 | c+1,i,l,h=>by
  unfold insI';exact (insI'_perm a c (i+1) _ (by rw[insJ_len];omega)).trans (insJ_perm a i l (by omega))
theorem insS_perm (a b:Nat) (l:List Pos) (h:b<=l.length):(insS a b l).Perm l:=by
 unfold insS;by_cases hb:a+1<=b
 .exact insI'_perm a _ _ l (by omega)
 .rw[show b - (a+1)=0 by omega];exact List.Perm.refl _
theorem swR_perm (a b:Nat):∀(c i:Nat) (l:List Pos),a+i+c<=l.length->b+i+c<=l.length->(swR a b c i l).Perm l
 | 0,_,l,_,_=>List.Perm.refl _
 | c+1,i,l,h1,h2=>by
  unfold swR;exact (swR_perm a b c (i+1) _ (by rw[Z2];omega) (by rw[Z2];omega)).trans (swp_perm (by omega) (by omega))
theorem rotF_perm (m:Nat):∀(n i j:Nat) (l:List Pos),i+j<=n->i<=m->m+j<=l.length->(rotF m i j l).Perm l:=by
 intro n
 induction n with
 | zero=>intro i j l h _ _;rw[rotF,if_pos (by omega)]
 | succ n ih =>
  intro i j l h hi hj;rw[rotF]
  split
  .exact List.Perm.refl _
  .split
   .exact swR_perm _ _ _ _ _ (by omega) (by omega)
   .split
    .exact (ih _ _ _ (by omega) (by omega) (by rw[swR_len];omega)).trans (swR_perm _ _ _ _ _ (by omega) (by omega))
    .exact (ih _ _ _ (by omega) (by omega) (by rw[swR_len];omega)).trans (swR_perm _ _ _ _ _ (by omega) (by omega))
theorem shU_perm:∀(c k:Nat) (l:List Pos),k+c<l.length->(shU c k l).Perm l
 | 0,_,l,_=>List.Perm.refl _
 | c+1,k,l,h=>by
  unfold shU;exact (shU_perm c (k+1) _ (by rw[Z2];omega)).trans (swp_perm (by omega) (by omega))
theorem shD_perm:∀(c k:Nat) (l:List Pos),k<l.length->(shD c k l).Perm l
 | 0,_,l,_=>List.Perm.refl _
 | c+1,k,l,h=>by
  unfold shD;exact (shD_perm c (k - 1) _ (by rw[Z2];omega)).trans (swp_perm (by omega) (by omega))
theorem symF_perm:∀(n:Nat) (l:List Pos) (a m b:Nat),b - a<=n->b<=l.length->(symF l a m b).Perm l:=by
 intro n
 induction n with
 | zero=>intro l a m b h _;rw[symF,if_neg (by omega)]
 | succ n ih =>
  intro l a m b h hb;rw[symF]
  split
  .rename_i hab
   split
   .have:=srch_bd (fun h=>decide (cmpP (l.getD h default) (l.getD a default)<0)) _ m b (Nat.le_refl _) (by omega);exact shU_perm _ _ _ (by omega)
   .split
    .exact shD_perm _ _ _ (by omega)
    .dsimp only;obtain ⟨md,hmd⟩:∃md,(a+b) / 2=md:=⟨_,rfl⟩
     rw[hmd];have hS:=srch_bd (fun c=>!decide (cmpP (l.getD (md+m - 1 - c) default) (l.getD c default)<0)) _ (if md<m then md+m - b else a) (if md<m then md else m) (Nat.le_refl _) (by split<;>omega);generalize srch _ _ _=S at hS ⊢
     have hS2:S<=m/\md+m<=S+b/\S<=md:=by
      split at hS<;>omega
     obtain ⟨l1,hl1⟩:∃l1,(if S<m/\m<md+m - S then rotF m (m - S) (md+m - S - m) l else l)=l1:=⟨_,rfl⟩
     have e1:l1.Perm l:=by
      rw[<-hl1]
      split
      .exact rotF_perm _ _ _ _ _ (Nat.le_refl _) (by omega) (by omega)
      .exact List.Perm.refl _
     rw[hl1];obtain ⟨l2,hl2⟩:∃l2,(if a<S/\S<md then symF l1 a S md else l1)=l2:=⟨_,rfl⟩
     have e2:l2.Perm l:=by
      rw[<-hl2]
      split
      .exact (ih _ _ _ _ (by omega) (by rw[e1.length_eq];omega)).trans e1
      .exact e1
     rw[hl2]
     split
     .exact (ih _ _ _ _ (by omega) (by rw[e2.length_eq];omega)).trans e2
     .exact e2
  .exact List.Perm.refl _
theorem blkF_perm (n:Nat):∀(k a:Nat) (l:List Pos),n - a<=k->n<=l.length->(blkF n a l).Perm l:=by
 intro k
 induction k with
 | zero=>intro a l h hn;rw[blkF,if_neg (by omega)];exact insS_perm _ _ _ hn
 | succ k ih =>
  intro a l h hn;rw[blkF]
  split
  .exact (ih _ _ (by omega) (by rw[insS_len];exact hn)).trans (insS_perm _ _ _ (by omega))
  .exact insS_perm _ _ _ hn
theorem mrgF_perm (n bs:Nat):∀(k a:Nat) (l:List Pos),n - a<=k->n<=l.length->(mrgF n bs a l).Perm l:=by
 intro k
 induction k with
 | zero =>
  intro a l h hn;rw[mrgF,if_neg (by omega)]
  split
  .exact symF_perm _ _ _ _ _ (Nat.le_refl _) hn
  .exact List.Perm.refl _
 | succ k ih =>
  intro a l h hn;rw[mrgF]
  split
  .exact (ih _ _ (by omega) (by rw[symF_len _ _ _ _ _ (Nat.le_refl _)];exact hn)).trans (symF_perm _ _ _ _ _ (Nat.le_refl _) (by omega))
  .split
   .exact symF_perm _ _ _ _ _ (Nat.le_refl _) hn
   .exact List.Perm.refl _
theorem upF_perm (n:Nat):∀(k bs:Nat) (l:List Pos),n - bs<=k->n<=l.length->(upF n bs l).Perm l:=by
 intro k
 induction k with
 | zero=>intro bs l h hn;rw[upF,if_neg (by omega)]
 | succ k ih =>
  intro bs l h hn;rw[upF]
  split
  .exact (ih _ _ (by omega) (by rw[mrgF_len _ _ _ _ _ (Nat.le_refl _)];exact hn)).trans (mrgF_perm _ _ _ _ _ (Nat.le_refl _) hn)
  .exact List.Perm.refl _
theorem sortF_perm (l:List Pos):(sortF l).Perm l:=by
 unfold sortF;exact (upF_perm _ _ _ _ (Nat.le_refl _) (by rw[blkF_len _ _ _ _ (Nat.le_refl _)];exact Nat.le_refl _)).trans (blkF_perm _ _ _ _ (Nat.le_refl _) (Nat.le_refl _))
def leP (x y:Pos):Prop:=cmpP x y<=0
theorem leP_refl (x:Pos):leP x x:=by
 have:=cmpP_swap x x;unfold leP;omega
theorem Ym {x y z:Pos} (h1:leP x y) (h2:leP y z):leP x z:=by
 unfold leP at *;by_cases e1:cmpP x y=0
 .obtain ⟨a,b⟩:=cmpP_eq.1 e1;have:cmpP x z=cmpP y z:=by unfold cmpP;rw[a,b]
  omega
 .by_cases e2:cmpP y z=0
  .obtain ⟨a,b⟩:=cmpP_eq.1 e2;have:cmpP x z=cmpP x y:=by unfold cmpP;rw[a,b]
   omega
  .have:=cmpP_trans (a:=x) (b:=y) (c:=z) (by omega) (by omega);omega
theorem not_lt {x y:Pos}:¬cmpP x y<0↔leP y x:=by
 have:=cmpP_swap x y;unfold leP;omega
abbrev gp (l:List Pos) (i:Nat):Pos:=l.getD i default
def SortedOn (l:List Pos) (a b:Nat):Prop:=∀i j,a<=i->i<j->j<b->leP (gp l i) (gp l j)
theorem gp_set {l:List Pos} {i j:Nat} {x:Pos} (h:i<l.length):gp (l.set i x) j=if j=i then x else gp l j:=by
 unfold gp;rw[List.getD_eq_getElem?_getD,List.getElem?_set];by_cases e:i=j
 .subst e;rw[if_pos rfl,if_pos h,if_pos rfl];rfl
 .rw[if_neg e,if_neg (fun h=>e h.symm),List.getD_eq_getElem?_getD]
theorem gp_swp {l:List Pos} {i j k:Nat} (h1:i<l.length) (h2:j<l.length):gp (swp l i j) k=if k=j then gp l i else if k=i then gp l j else gp l k:=by
 unfold swp;rw[gp_set (by simpa using h2)]
 split
 .rfl
 .rw[gp_set h1]
structure HoleP (l:List Pos) (a j e:Nat):Prop where
 so:∀i k,a<=i->i<k->k<=e->i≠j->k≠j->leP (gp l i) (gp l k)
 up:∀k,j<k->k<=e->leP (gp l j) (gp l k)
theorem insJ_sorts (a e:Nat):∀(j:Nat) (l:List Pos),a<=j->j<=e->e<l.length->HoleP l a j e->SortedOn (insJ a j l) a (e+1)
 | 0,l,ha,hj,he,h=>fun i k h1 h2 h3=>by
  show leP (gp l i) (gp l k);by_cases hi:i=0
  .subst hi;exact h.up k h2 (by omega)
  .exact h.so i k h1 h2 (by omega) hi (by omega)
 | j+1,l,ha,hj,he,h=>by
  unfold insJ
  split
  .rename_i hc;refine insJ_sorts a e j _ (by omega) (by omega) (by rw[Z2];exact he) ⟨fun i k h1 h2 h3 h4 h5=>?_,fun k h1 h2=>?_⟩
   .rw[gp_swp (by omega) (by omega),gp_swp (by omega) (by omega),if_neg h4,if_neg h5];by_cases hi:i=j+1
    .rw[if_pos hi,if_neg (by omega)];exact h.so j k (by omega) (by omega) h3 (by omega) (by omega)
    .rw[if_neg hi];by_cases hk:k=j+1
     .rw[if_pos hk];exact h.so i j h1 (by omega) (by omega) hi (by omega)
     .rw[if_neg hk];exact h.so i k h1 h2 h3 hi hk
   .rw[gp_swp (by omega) (by omega),gp_swp (by omega) (by omega),if_pos rfl,if_neg (by omega)];by_cases hk:k=j+1
    .rw[if_pos hk];unfold leP;exact Int.le_of_lt hc.2
    .rw[if_neg hk];exact h.up k (by omega) h2
  .rename_i hc;intro i k h1 h2 h3;by_cases hi:i=j+1
   .subst hi;exact h.up k h2 (by omega)
   .by_cases hk:k=j+1
    .subst hk;have hle:leP (gp l j) (gp l (j+1)):=not_lt.1 (fun hh=>hc ⟨by omega,hh⟩);by_cases hij:i=j
     .subst hij;exact hle
     .exact Ym (h.so i j h1 (by omega) (by omega) hi (by omega)) hle
    .exact h.so i k h1 h2 (by omega) hi hk
theorem insJ_out (a:Nat):∀(j:Nat) (l:List Pos) (k:Nat),j<l.length->(k<a\/j<k)->gp (insJ a j l) k=gp l k
 | 0,l,k,_,_=>rfl
 | j+1,l,k,hj,hk=>by
  unfold insJ
  split
  .rename_i hc;rw[insJ_out a j _ k (by rw[Z2];omega) (by omega),gp_swp (by omega) (by omega),if_neg (by omega),if_neg (by omega)]
  .rfl
theorem insI'_sorts (a:Nat):∀(c i:Nat) (l:List Pos),a<=i->i+c<=l.length->SortedOn l a i->SortedOn (insI' a c i l) a (i+c)
 | 0,i,l,_,_,h=>h
 | c+1,i,l,ha,hi,h=>by
  unfold insI';rw[show i+(c+1)=i+1+c by omega];refine insI'_sorts a c (i+1) _ (by omega) (by rw[insJ_len];omega) ?_;exact insJ_sorts a i i l ha (Nat.le_refl _) (by omega) ⟨fun x k h1 h2 h3 h4 h5=>h x k h1 h2 (by omega),fun k h1 h2=>by omega⟩
theorem insI'_out (a:Nat):∀(c i:Nat) (l:List Pos) (k:Nat),a<=i->i+c<=l.length->(k<a\/i+c<=k)->gp (insI' a c i l) k=gp l k
 | 0,_,l,k,_,_,_=>rfl
 | c+1,i,l,k,ha,hi,hk=>by
  unfold insI';rw[insI'_out a c (i+1) _ k (by omega) (by rw[insJ_len];omega) (by omega),insJ_out a i l k (by omega) (by omega)]
theorem insS_sorts {a b:Nat} {l:List Pos} (hab:a<=b) (hb:b<=l.length):SortedOn (insS a b l) a b:=by
 unfold insS;by_cases h:a+1<=b
 .have:=insI'_sorts a (b - (a+1)) (a+1) l (by omega) (by omega) (fun i j h1 h2 h3=>by omega);rw[show a+1+(b - (a+1))=b by omega]at this;exact this
 .exact fun i j h1 h2 h3=>by omega
theorem insS_out {a b:Nat} {l:List Pos} {k:Nat} (hab:a<=b) (hb:b<=l.length) (hk:k<a\/b<=k):gp (insS a b l) k=gp l k:=by
 unfold insS;by_cases h:a+1<=b
 .exact insI'_out a _ _ l k (by omega) (by omega) (by omega)
 .rw[show b - (a+1)=0 by omega];rfl
theorem swR_gp (a b:Nat):∀(c i:Nat) (l:List Pos) (k:Nat),a+i+c<=b+i->b+i+c<=l.length ->
 gp (swR a b c i l) k=if a+i<=k/\k<a+i+c then gp l (b+(k - a)) else if b+i<=k/\k<b+i+c then gp l (a+(k - b)) else gp l k
 | 0,i,l,k,_,_=>by
  unfold swR
  rw[if_neg (by omega),if_neg (by omega)]
 | c+1,i,l,k,h1,h2=>by
  unfold swR;rw[swR_gp a b c (i+1) _ k (by omega) (by rw[Z2];omega)];by_cases e1:k=a+i
  .subst e1;rw[if_neg (by omega),if_neg (by omega),if_pos (by omega),gp_swp (by omega) (by omega),if_neg (by omega),if_pos rfl];congr 1;omega
  .by_cases e2:k=b+i
   .subst e2;rw[if_neg (by omega),if_neg (by omega),if_neg (by omega),if_pos (by omega),gp_swp (by omega) (by omega),if_pos rfl];congr 1;omega
   .by_cases e3:a+(i+1)<=k/\k<a+(i+1)+c
    .rw[if_pos e3,if_pos (by omega),gp_swp (by omega) (by omega),if_neg (by omega),if_neg (by omega)]
    .rw[if_neg e3];by_cases e4:b+(i+1)<=k/\k<b+(i+1)+c
     .rw[if_pos e4,if_neg (by omega),if_pos (by omega),gp_swp (by omega) (by omega),if_neg (by omega),if_neg (by omega)]
     .rw[if_neg e4,if_neg (by omega),if_neg (by omega),gp_swp (by omega) (by omega),if_neg e2,if_neg e1]
theorem rotF_gp (m:Nat):∀(n i j:Nat) (l:List Pos) (k:Nat),i+j<=n->0<i->0<j->i<=m->m+j<=l.length ->
 gp (rotF m i j l) k=if m - i<=k/\k<m - i+j then gp l (k+i) else if m - i+j<=k/\k<m+j then gp l (k - j) else gp l k:=by
 intro n
 induction n with
 | zero=>intro i j l k h h1 h2;omega
 | succ n ih =>
  intro i j l k h h1 h2 hi hj;rw[rotF,if_neg (by omega)];by_cases hij:i=j
  .subst hij;rw[if_pos rfl,swR_gp _ _ _ _ _ _ (by omega) (by omega)];by_cases e1:m - i<=k/\k<m - i+i
   .rw[if_pos (by omega),if_pos e1];congr 1;omega
   .rw[if_neg (by omega),if_neg e1];by_cases e2:m - i+i<=k/\k<m+i
    .rw[if_pos (by omega),if_pos e2];congr 1;omega
    .rw[if_neg (by omega),if_neg e2]
  .rw[if_neg hij];by_cases hlt:j<i
   .rw[if_pos hlt,ih (i - j) j _ k (by omega) (by omega) h2 (by omega) (by rw[swR_len];omega)];have sw:=fun k=>swR_gp (m - i) m j 0 l k (by omega) (by omega);by_cases e1:m - i<=k/\k<m - i+j
    .rw[if_neg (by omega),if_neg (by omega),if_pos e1,sw,if_pos (by omega)];congr 1;omega
    .rw[if_neg e1];by_cases e2:m - i+j<=k/\k<m+j
     .rw[if_pos e2];by_cases e3:m - (i - j)<=k/\k<m - (i - j)+j
      .rw[if_pos e3,sw];by_cases e4:m<=k+(i - j)
       .rw[if_neg (by omega),if_pos (by omega)];congr 1;omega
       .rw[if_neg (by omega),if_neg (by omega)];congr 1;omega
      .rw[if_neg e3,if_pos (by omega),sw];by_cases e4:m<=k - j
       .rw[if_neg (by omega),if_pos (by omega)];congr 1;omega
       .rw[if_neg (by omega),if_neg (by omega)]
     .rw[if_neg e2,if_neg (by omega),if_neg (by omega),sw,if_neg (by omega),if_neg (by omega)]
   .rw[if_neg hlt,ih i (j - i) _ k (by omega) h1 (by omega) hi (by rw[swR_len];omega)];have sw:=fun k=>swR_gp (m - i) (m+j - i) i 0 l k (by omega) (by omega);by_cases e1:m - i<=k/\k<m - i+(j - i)
    .rw[if_pos e1,if_pos (by omega),sw,if_neg (by omega),if_neg (by omega)]
    .rw[if_neg e1];by_cases e2:m - i+(j - i)<=k/\k<m+(j - i)
     .rw[if_pos e2,if_pos (by omega),sw,if_pos (by omega)];congr 1;omega
     .rw[if_neg e2,if_neg (by omega),sw,if_neg (by omega)];by_cases e3:m - i+j<=k/\k<m+j
      .rw[if_pos e3,if_pos (by omega)];congr 1;omega
      .rw[if_neg e3,if_neg (by omega)]
theorem srch_spec (Q:Nat->Bool):∀(n lo hi:Nat),hi - lo<=n->lo<=hi->(∀x y,lo<=x->x<y->y<hi->Q y=true->Q x=true) ->
 (∀x,lo<=x->x<srch Q lo hi->Q x=true)/\(∀x,srch Q lo hi<=x->x<hi->Q x=false):=by
 intro n
 induction n with
 | zero=>intro lo hi h1 h2 _;rw[srch,if_neg (by omega)];exact ⟨fun x a b=>by omega,fun x a b=>by omega⟩
 | succ n ih =>
  intro lo hi h1 h2 hm;rw[srch];by_cases hlt:lo<hi
  .rw[if_pos hlt];obtain ⟨c,hc⟩:∃c,(lo+hi) / 2=c:=⟨_,rfl⟩
   have hcb:lo<=c/\c<hi:=by omega
   rw[hc];by_cases hq:Q c=true
   .rw[if_pos hq];have bd:=srch_bd Q _ (c+1) hi (Nat.le_refl _) (by omega);obtain ⟨i1,i2⟩:=ih (c+1) hi (by omega) (by omega) (fun x y a b d e=>hm x y (by omega) b d e);refine ⟨fun x a b=>?_,i2⟩;rcases Nat.lt_or_ge c x with h|h
    .exact i1 x h b
    .rcases Nat.lt_or_eq_of_le h with h|rfl
     .exact hm x c a h hcb.2 hq
     .exact hq
   .rw[if_neg hq];have bd:=srch_bd Q _ lo c (Nat.le_refl _) (by omega);obtain ⟨i1,i2⟩:=ih lo c (by omega) (by omega) (fun x y a b d e=>hm x y a b (by omega) e);refine ⟨i1,fun x a b=>?_⟩;rcases Nat.lt_or_ge x c with h|h
    .exact i2 x a h
    .rcases Nat.lt_or_eq_of_le h with h|rfl
     .cases hx:Q x with
      | false=>rfl
      | true=>exact absurd (hm c x hcb.1 h b hx) hq
     .simpa using hq
  .rw[if_neg hlt];exact ⟨fun x a b=>by omega,fun x a b=>by omega⟩
theorem shU_gp:∀(c k:Nat) (l:List Pos) (x:Nat),k+c<l.length ->
 gp (shU c k l) x=if x=k+c then gp l k else if k<=x/\x<k+c then gp l (x+1) else gp l x
 | 0,k,l,x,_=>by
  unfold shU;by_cases h:x=k
  .subst h;rw[if_pos (by omega)]
  .rw[if_neg (by omega),if_neg (by omega)]
 | c+1,k,l,x,h=>by
  unfold shU;rw[shU_gp c (k+1) _ x (by rw[Z2];omega)];have sw:=fun y=>gp_swp (l:=l) (i:=k) (j:=k+1) (k:=y) (by omega) (by omega);by_cases e1:x=k+(c+1)
  .rw[if_pos (by omega),if_pos e1,sw,if_pos rfl]
  .rw[if_neg (by omega),if_neg e1];by_cases e2:x=k
   .subst e2;rw[if_neg (by omega),if_pos (by omega),sw,if_neg (by omega),if_pos rfl]
   .by_cases e3:k+1<=x/\x<k+1+c
    .rw[if_pos e3,if_pos (by omega),sw,if_neg (by omega),if_neg (by omega)]
    .rw[if_neg e3,if_neg (by omega),sw,if_neg (by omega),if_neg e2]
theorem shD_gp:∀(c k:Nat) (l:List Pos) (x:Nat),c<=k->k<l.length ->
 gp (shD c k l) x=if x=k - c then gp l k else if k - c<x/\x<=k then gp l (x - 1) else gp l x
 | 0,k,l,x,_,_=>by
  unfold shD;by_cases h:x=k
  .subst h;rw[if_pos (by omega)]
  .rw[if_neg (by omega),if_neg (by omega)]
 | c+1,k,l,x,h,hk=>by
  unfold shD;rw[shD_gp c (k - 1) _ x (by omega) (by rw[Z2];omega)];have sw:=fun y=>gp_swp (l:=l) (i:=k) (j:=k - 1) (k:=y) (by omega) (by omega);by_cases e1:x=k - (c+1)
  .rw[if_pos (by omega),if_pos e1,sw,if_pos rfl]
  .rw[if_neg (by omega),if_neg e1];by_cases e2:x=k
   .subst e2;rw[if_neg (by omega),if_pos (by omega),sw,if_neg (by omega),if_pos rfl]
   .by_cases e3:k - 1 - c<x/\x<=k - 1
    .rw[if_pos e3,if_pos (by omega),sw,if_neg (by omega),if_neg (by omega)]
    .rw[if_neg e3,if_neg (by omega),sw,if_neg (by omega),if_neg e2]
structure SymOk (l r:List Pos) (a b:Nat):Prop where
 so:SortedOn r a b
 mem:∀k,a<=k->k<b->∃x,a<=x/\x<b/\gp r k=gp l x
 out:∀k,(k<a\/b<=k)->gp r k=gp l k
theorem SortedOn.le {l:List Pos} {a b i j:Nat} (h:SortedOn l a b) (h1:a<=i) (h2:i<=j) (h3:j<b):leP (gp l i) (gp l j):=by
 rcases Nat.lt_or_eq_of_le h2 with h4|rfl
 .exact h i j h1 h4 h3
 .exact leP_refl _
theorem lt_le {x y:Pos} (h:cmpP x y<0):leP x y:=Int.le_of_lt h
theorem symF_none {l:List Pos} {a m b:Nat} (h:¬(a<m/\m<b)):symF l a m b=l:=by rw[symF,if_neg h]
theorem sym_triv {l:List Pos} {a m b:Nat} (h:¬(a<m/\m<b)) (ham:a<=m) (hmb:m<=b) (h1:SortedOn l a m) (h2:SortedOn l m b):SymOk l (symF l a m b) a b:=by
 rw[symF_none h];refine ⟨?_,fun k h1 h2=>⟨k,h1,h2,rfl⟩,fun _ _=>rfl⟩;by_cases e:a=m
 .subst e;exact h2
 .obtain rfl:m=b:=by omega
  exact h1
theorem sym_one {l:List Pos} {a m b:Nat} (ha:a<m) (hb:m<b) (hl:b<=l.length) (h1:m - a=1) (h2:SortedOn l m b) :
 SymOk l (shU (srch (fun h=>decide (cmpP (l.getD h default) (l.getD a default)<0)) m b - 1 - a) a l) a b:=by
 have bd:=srch_bd (fun h=>decide (cmpP (l.getD h default) (l.getD a default)<0)) _ m b (Nat.le_refl _) (by omega)
 have sp:=srch_spec (fun h=>decide (cmpP (l.getD h default) (l.getD a default)<0)) _ m b (Nat.le_refl _) (by omega) (fun x y e1 e2 e3 e4=>by
  have e4:=of_decide_eq_true e4;have:=h2 x y e1 e2 e3;refine decide_eq_true ?_;have e5:¬leP (gp l a) (gp l y):=fun h=>(not_lt.2 h) e4
  exact Classical.not_not.1 fun h=>e5 (Ym (not_lt.1 h) this))
 generalize srch _ m b=i at bd sp ⊢;obtain ⟨s1,s2⟩:=sp;have s1:∀x,m<=x->x<i->leP (gp l x) (gp l a):=fun x e1 e2=>lt_le (of_decide_eq_true (s1 x e1 e2));have s2:∀x,i<=x->x<b->leP (gp l a) (gp l x):=fun x e1 e2=>not_lt.1 (of_decide_eq_false (s2 x e1 e2));have gpx:=fun x=>shU_gp (i - 1 - a) a l x (by omega);have g1:gp (shU (i - 1 - a) a l) (i - 1)=gp l a:=by rw[gpx,if_pos (by omega)]
 have g2:∀x,a<=x->x<i - 1->gp (shU (i - 1 - a) a l) x=gp l (x+1):=fun x e1 e2=>by rw[gpx,if_neg (by omega),if_pos (by omega)]
 have g3:∀x,(x<a\/i - 1<x)->gp (shU (i - 1 - a) a l) x=gp l x:=fun x e1=>by rw[gpx,if_neg (by omega),if_neg (by omega)]
 refine ⟨fun x y e1 e2 e3=>?_,fun x e1 e2=>?_,fun x e1=>g3 x (by omega)⟩
 .by_cases p1:x<i - 1
  .rw[g2 x e1 p1];by_cases p2:y<i - 1
   .rw[g2 y (by omega) p2];exact h2 _ _ (by omega) (by omega) (by omega)
   .by_cases p3:y=i - 1
    .rw[p3,g1];exact s1 _ (by omega) (by omega)
    .rw[g3 y (by omega)];exact h2 _ _ (by omega) (by omega) (by omega)
  .by_cases p2:x=i - 1
   .rw[p2,g1,g3 y (by omega)];exact s2 _ (by omega) (by omega)
   .rw[g3 x (by omega),g3 y (by omega)];exact h2 _ _ (by omega) e2 e3
 .by_cases p1:x<i - 1
  .exact ⟨x+1,by omega,by omega,g2 x e1 p1⟩
  .by_cases p2:x=i - 1
   .exact ⟨a,by omega,by omega,by rw[p2,g1]⟩
   .exact ⟨x,e1,e2,g3 x (by omega)⟩
theorem sym_last {l:List Pos} {a m b:Nat} (ha:a<m) (hb:m<b) (hl:b<=l.length) (h1:b - m=1) (h2:SortedOn l a m) :
 SymOk l (shD (m - srch (fun h=>!decide (cmpP (l.getD m default) (l.getD h default)<0)) a m) m l) a b:=by
 have bd:=srch_bd (fun h=>!decide (cmpP (l.getD m default) (l.getD h default)<0)) _ a m (Nat.le_refl _) (by omega)
 have cv:∀x,(!decide (cmpP (l.getD m default) (l.getD x default)<0))=true↔leP (gp l x) (gp l m):=fun x=>by
  rw[Bool.not_eq_true',decide_eq_false_iff_not];exact not_lt
 have sp:=srch_spec (fun h=>!decide (cmpP (l.getD m default) (l.getD h default)<0)) _ a m (Nat.le_refl _) (by omega) (fun x y e1 e2 e3 e4=>by
  have e4:=(cv y).1 e4
  exact (cv x).2 (Ym (h2 x y e1 e2 e3) e4))
 generalize srch _ a m=i at bd sp ⊢;obtain ⟨s1,s2⟩:=sp;have s1:∀x,a<=x->x<i->leP (gp l x) (gp l m):=fun x e1 e2=>(cv x).1 (s1 x e1 e2)
 have s2:∀x,i<=x->x<m->leP (gp l m) (gp l x):=fun x e1 e2=>by
  have:=s2 x e1 e2;rw[Bool.not_eq_false',decide_eq_true_iff]at this;exact lt_le this
 have gpx:=fun x=>shD_gp (m - i) m l x (by omega) (by omega);have g1:gp (shD (m - i) m l) i=gp l m:=by rw[gpx,if_pos (by omega)]
 have g2:∀x,i<x->x<=m->gp (shD (m - i) m l) x=gp l (x - 1):=fun x e1 e2=>by rw[gpx,if_neg (by omega),if_pos (by omega)]
 have g3:∀x,(x<i\/m<x)->gp (shD (m - i) m l) x=gp l x:=fun x e1=>by rw[gpx,if_neg (by omega),if_neg (by omega)]
 refine ⟨fun x y e1 e2 e3=>?_,fun x e1 e2=>?_,fun x e1=>g3 x (by omega)⟩
 .by_cases p1:x<i
  .rw[g3 x (by omega)];by_cases p2:y<i
   .rw[g3 y (by omega)];exact h2 _ _ (by omega) (by omega) (by omega)
   .by_cases p3:y=i
    .rw[p3,g1];exact s1 _ (by omega) (by omega)
    .rw[g2 y (by omega) (by omega)];exact h2.le (by omega) (by omega) (by omega)
  .by_cases p2:x=i
   .rw[p2,g1,g2 y (by omega) (by omega)];exact s2 _ (by omega) (by omega)
   .rw[g2 x (by omega) (by omega),g2 y (by omega) (by omega)];exact h2 _ _ (by omega) (by omega) (by omega)
 .by_cases p1:x<i
  .exact ⟨x,e1,e2,g3 x (by omega)⟩
  .by_cases p2:x=i
   .exact ⟨m,by omega,by omega,by rw[p2,g1]⟩
   .exact ⟨x - 1,by omega,by omega,g2 x (by omega) (by omega)⟩
theorem symF_ok:∀(n:Nat) (l:List Pos) (a m b:Nat),b - a<=n->a<=m->m<=b->b<=l.length->SortedOn l a m->SortedOn l m b->SymOk l (symF l a m b) a b:=by
 intro n
 induction n with
 | zero=>intro l a m b h ham hmb _ h1 h2;exact sym_triv (by omega) ham hmb h1 h2
 | succ n ih =>
  intro l a m b h ham hmb hb h1 h2;by_cases hab:a<m/\m<b
  .rw[symF,if_pos hab];by_cases hm1:m - a=1
   .rw[if_pos hm1];exact sym_one hab.1 hab.2 hb hm1 h2
   .rw[if_neg hm1];by_cases hm2:b - m=1
    .rw[if_pos hm2];exact sym_last hab.1 hab.2 hb hm2 h1
    .rw[if_neg hm2];dsimp only;obtain ⟨md,hmd⟩:∃md,(a+b) / 2=md:=⟨_,rfl⟩
     rw[hmd]
     have cv:∀x,(!decide (cmpP (l.getD (md+m - 1 - x) default) (l.getD x default)<0))=true↔leP (gp l x) (gp l (md+m - 1 - x)):=fun x=>by
      rw[Bool.not_eq_true',decide_eq_false_iff_not];exact not_lt
     obtain ⟨lo,hlo⟩:∃lo,(if md<m then md+m - b else a)=lo:=⟨_,rfl⟩
     obtain ⟨hi,hhi⟩:∃hi,(if md<m then md else m)=hi:=⟨_,rfl⟩
     have hlh:lo<=hi/\a<=lo/\hi<=m/\md+m<=lo+b/\hi<=md/\(lo=a\/md+m=lo+b)/\(hi=m\/hi=md):=by
      rw[<-hlo,<-hhi];split<;>omega
     rw[hlo,hhi];have bd:=srch_bd (fun c=>!decide (cmpP (l.getD (md+m - 1 - c) default) (l.getD c default)<0)) _ lo hi (Nat.le_refl _) hlh.1
     have sp:=srch_spec (fun c=>!decide (cmpP (l.getD (md+m - 1 - c) default) (l.getD c default)<0)) _ lo hi (Nat.le_refl _) hlh.1 (fun x y e1 e2 e3 e4=>by
      have e4:=(cv y).1 e4
      exact (cv x).2 (Ym (Ym (h1 x y (by omega) e2 (by omega)) e4) (h2.le (by omega) (by omega) (by omega))))
     generalize srch _ lo hi=S at bd sp ⊢;obtain ⟨s1,s2⟩:=sp;have s1:∀x,lo<=x->x<S->leP (gp l x) (gp l (md+m - 1 - x)):=fun x e1 e2=>(cv x).1 (s1 x e1 e2)
     have s2:∀x,S<=x->x<hi->leP (gp l (md+m - 1 - x)) (gp l x):=fun x e1 e2=>by
      have:=s2 x e1 e2;rw[Bool.not_eq_false',decide_eq_true_iff]at this;exact lt_le this
     obtain ⟨E,hE⟩:∃E,md+m - S=E:=⟨_,rfl⟩
     rw[hE];have hSE:a<=S/\S<=m/\m<=E/\E<=b/\S<=md/\md<=E/\S+E=md+m:=by omega
     obtain ⟨l1,hl1⟩:∃l1,(if S<m/\m<E then rotF m (m - S) (E - m) l else l)=l1:=⟨_,rfl⟩
     rw[hl1]
     have hlen:l1.length=l.length:=by
      rw[<-hl1];split
      .exact rotF_len _ _ _ _ _ (Nat.le_refl _)
      .rfl
     have g1:∀k,S<=k->k<md->gp l1 k=gp l (k+(m - S)):=fun k e1 e2=>by
      rw[<-hl1];split
      .rw[rotF_gp m _ _ _ l k (Nat.le_refl _) (by omega) (by omega) (by omega) (by omega),if_pos (by omega)]
      .congr 1;omega
     have g2:∀k,md<=k->k<E->gp l1 k=gp l (k - (E - m)):=fun k e1 e2=>by
      rw[<-hl1];split
      .rw[rotF_gp m _ _ _ l k (Nat.le_refl _) (by omega) (by omega) (by omega) (by omega),if_neg (by omega),if_pos (by omega)]
      .congr 1;omega
     have g3:∀k,(k<S\/E<=k)->gp l1 k=gp l k:=fun k e1=>by
      rw[<-hl1];split
      .rw[rotF_gp m _ _ _ l k (Nat.le_refl _) (by omega) (by omega) (by omega) (by omega),if_neg (by omega),if_neg (by omega)]
      .rfl
     have x1:(if a<S/\S<md then symF l1 a S md else l1)=symF l1 a S md:=by
      split
      .rfl
      .rename_i hh;rw[symF_none hh]
     rw[x1]
     have i1:=ih l1 a S md (by omega) (by omega) (by omega) (by omega) (fun x y e1 e2 e3=>by
      rw[g3 x (by omega),g3 y (by omega)];exact h1 x y e1 e2 (by omega)) (fun x y e1 e2 e3=>by
      rw[g1 x (by omega) (by omega),g1 y (by omega) (by omega)];exact h2 _ _ (by omega) (by omega) (by omega))
     have hlen2:(symF l1 a S md).length=l.length:=by rw[symF_len _ _ _ _ _ (Nat.le_refl _),hlen]
     generalize symF l1 a S md=l2 at i1 hlen2 ⊢
     have x2:(if md<E/\E<b then symF l2 md E b else l2)=symF l2 md E b:=by
      split
      .rfl
      .rename_i hh;rw[symF_none hh]
     rw[x2]
     have i2:=ih l2 md E b (by omega) (by omega) (by omega) (by omega) (fun x y e1 e2 e3=>by
      rw[i1.out x (by omega),i1.out y (by omega),g2 x (by omega) (by omega),g2 y (by omega) (by omega)];exact h1 _ _ (by omega) (by omega) (by omega)) (fun x y e1 e2 e3=>by
      rw[i1.out x (by omega),i1.out y (by omega),g3 x (by omega),g3 y (by omega)];exact h2 _ _ (by omega) (by omega) (by omega))
     generalize symF l2 md E b=l3 at i2 ⊢
     have m1:∀k,a<=k->k<md->∃x,((a<=x/\x<S)\/(m<=x/\x<E))/\gp l3 k=gp l x:=fun k e1 e2=>by
      obtain ⟨x,p1,p2,p3⟩:=i1.mem k e1 e2;rw[i2.out k (by omega),p3];by_cases p4:x<S
      .exact ⟨x,.inl ⟨p1,p4⟩,g3 x (by omega)⟩
      .exact ⟨x+(m - S),.inr (by omega),g1 x (by omega) (by omega)⟩
     have m2:∀k,md<=k->k<b->∃x,((S<=x/\x<m)\/(E<=x/\x<b))/\gp l3 k=gp l x:=fun k e1 e2=>by
      obtain ⟨x,p1,p2,p3⟩:=i2.mem k e1 e2;rw[p3,i1.out x (by omega)];by_cases p4:E<=x
      .exact ⟨x,.inr ⟨p4,p2⟩,g3 x (by omega)⟩
      .exact ⟨x - (E - m),.inl (by omega),g2 x (by omega) (by omega)⟩
     refine ⟨fun x y e1 e2 e3=>?_,fun k e1 e2=>?_,fun k e1=>?_⟩
     .by_cases p1:y<md
      .rw[i2.out x (by omega),i2.out y (by omega)];exact i1.so x y e1 e2 p1
      .by_cases p2:md<=x
       .exact i2.so x y p2 e2 e3
       .obtain ⟨u,u1,u2⟩:=m1 x e1 (by omega);obtain ⟨v,v1,v2⟩:=m2 y (by omega) e3;rw[u2,v2];rcases u1 with u1|u1<;>rcases v1 with v1|v1
        .exact h1 _ _ (by omega) (by omega) (by omega)
        .by_cases hS:S=lo
         .exfalso;omega
         .have:=s1 (S - 1) (by omega) (by omega);rw[show md+m - 1 - (S - 1)=E by omega]at this;exact Ym (Ym (h1.le (by omega) (by omega) (by omega)) this) (h2.le (by omega) v1.1 v1.2)
        .by_cases hS:S=hi
         .exfalso;omega
         .have:=s2 S (by omega) (by omega);exact Ym (Ym (h2.le u1.1 (by omega) (by omega)) this) (h1.le (by omega) v1.1 (by omega))
        .exact h2 _ _ (by omega) (by omega) (by omega)
     .by_cases p1:k<md
      .obtain ⟨u,u1,u2⟩:=m1 k e1 p1;exact ⟨u,by omega,by omega,u2⟩
      .obtain ⟨u,u1,u2⟩:=m2 k (by omega) e2;exact ⟨u,by omega,by omega,u2⟩
     .rw[i2.out k (by omega),i1.out k (by omega),g3 k (by omega)]
  .exact sym_triv hab ham hmb h1 h2
def Runs (l:List Pos) (a n bs:Nat):Prop:=∀c,SortedOn l (a+c*bs) (min (a+c*bs+bs) n)
theorem SortedOn.congr {l r:List Pos} {a b:Nat} (h:SortedOn l a b) (e:∀k,a<=k->k<b->gp r k=gp l k):SortedOn r a b:=fun i j h1 h2 h3=>by
 rw[e i h1 (by omega),e j (by omega) h3];exact h i j h1 h2 h3
theorem SortedOn.sub {l:List Pos} {a b c d:Nat} (h:SortedOn l a b) (h1:a<=c) (h2:d<=b):SortedOn l c d:=fun i j p1 p2 p3=>h i j (by omega) p2 (by omega)
theorem Runs.cons {l:List Pos} {a n bs:Nat} (h0:SortedOn l a (min (a+bs) n)) (h:Runs l (a+bs) n bs):Runs l a n bs:=fun c=>by
 cases c with
 | zero=>rw[Nat.zero_mul];exact h0
 | succ c=>have:=h c;rw[show a+(c+1)*bs=a+bs+c*bs by rw[Nat.succ_mul];omega];exact this
theorem Runs.tail {l:List Pos} {a n bs:Nat} (h:Runs l a n bs):Runs l (a+bs) n bs:=fun c=>by
 have:=h (c+1);rw[show a+(c+1)*bs=a+bs+c*bs by rw[Nat.succ_mul];omega]at this;exact this
theorem Runs.head {l:List Pos} {a n bs:Nat} (h:Runs l a n bs):SortedOn l a (min (a+bs) n):=by
 have:=h 0;rw[Nat.zero_mul]at this;exact this
theorem Runs.none {l:List Pos} {a n bs:Nat} (h:n<=a):Runs l a n bs:=fun c i j h1 h2 h3=>by omega
theorem Runs.congr {l r:List Pos} {a n bs:Nat} (h:Runs l a n bs) (e:∀k,a<=k->gp r k=gp l k):Runs r a n bs:=fun c =>
 (h c).congr fun k h1 _=>e k (by omega)
theorem blkF_ok (n:Nat):∀(k a:Nat) (l:List Pos),n - a<=k->a<=n->n<=l.length->Runs (blkF n a l) a n 20/\∀i,i<a->gp (blkF n a l) i=gp l i:=by
 intro k
 induction k with
 | zero =>
  intro a l h ha hn;rw[blkF,if_neg (by omega)]
  exact ⟨Runs.none (by omega),fun i hi=>insS_out ha hn (.inl hi)⟩
 | succ k ih =>
  intro a l h ha hn;rw[blkF]
  split
  .rename_i hlt;obtain ⟨i1,i2⟩:=ih (a+20) (insS a (a+20) l) (by omega) hlt (by rw[insS_len];exact hn);refine ⟨Runs.cons ?_ i1,fun i hi=>by rw[i2 i (by omega),insS_out (by omega) (by omega) (.inl hi)]⟩;exact ((insS_sorts (l:=l) (show a<=a+20 by omega) (by omega)).congr fun k h1 h2=>i2 k h2).sub (Nat.le_refl _) (by omega)
  .rename_i hlt;exact ⟨Runs.cons ((insS_sorts ha hn).sub (Nat.le_refl _) (by omega)) (Runs.none (by omega)),fun i hi=>insS_out ha hn (.inl hi)⟩
theorem mrgF_ok (n bs:Nat) (hb:0<bs):∀(k a:Nat) (l:List Pos),n - a<=k->a<=n->n<=l.length->Runs l a n bs->Runs (mrgF n bs a l) a n (2*bs)/\∀i,i<a->gp (mrgF n bs a l) i=gp l i:=by
 intro k
 induction k with
 | zero =>
  intro a l h ha hn _;rw[mrgF,if_neg (by omega),if_neg (by omega)]
  exact ⟨Runs.none (by omega),fun i hi=>rfl⟩
 | succ k ih =>
  intro a l h ha hn hr;rw[mrgF]
  split
  .rename_i hlt;have s:=symF_ok _ l a (a+bs) (a+2*bs) (Nat.le_refl _) (by omega) (by omega) (by omega) (hr.head.sub (Nat.le_refl _) (by omega)) (hr.tail.head.sub (Nat.le_refl _) (by omega))
   have hr2:Runs (symF l a (a+bs) (a+2*bs)) (a+2*bs) n bs:=by
    have:=hr.tail.tail;rw[show a+bs+bs=a+2*bs by omega]at this;exact this.congr fun k hk=>s.out k (.inr hk)
   obtain ⟨i1,i2⟩:=ih (a+2*bs) _ (by omega) hlt.2 (by rw[symF_len _ _ _ _ _ (Nat.le_refl _)];exact hn) hr2;refine ⟨Runs.cons ?_ i1,fun i hi=>by rw[i2 i (by omega),s.out i (.inl hi)]⟩;exact (s.so.congr fun k h1 h2=>i2 k h2).sub (Nat.le_refl _) (by omega)
  .rename_i hlt
   split
   .rename_i hl2;have s:=symF_ok _ l a (a+bs) n (Nat.le_refl _) (by omega) (by omega) hn (hr.head.sub (Nat.le_refl _) (by omega)) (hr.tail.head.sub (Nat.le_refl _) (by omega));exact ⟨Runs.cons (s.so.sub (Nat.le_refl _) (by omega)) (Runs.none (by omega)),fun i hi=>s.out i (.inl hi)⟩
   .exact ⟨Runs.cons (hr.head.sub (Nat.le_refl _) (by omega)) (Runs.none (by omega)),fun i hi=>rfl⟩
theorem upF_ok (n:Nat):∀(k bs:Nat) (l:List Pos),n - bs<=k->0<bs->n<=l.length->Runs l 0 n bs->SortedOn (upF n bs l) 0 n:=by
 intro k
 induction k with
 | zero =>
  intro bs l h hb hn hr;rw[upF,if_neg (by omega)]
  exact hr.head.sub (Nat.le_refl _) (by omega)
 | succ k ih =>
  intro bs l h hb hn hr;rw[upF]
  split
  .exact ih _ _ (by omega) (by omega) (by rw[mrgF_len _ _ _ _ _ (Nat.le_refl _)];exact hn) (mrgF_ok n bs hb _ 0 l (Nat.le_refl _) (Nat.zero_le _) hn hr).1
  .exact hr.head.sub (Nat.le_refl _) (by omega)
theorem sortF_sorts (l:List Pos):(sortF l).Pairwise leP:=by
 have h:SortedOn (sortF l) 0 l.length:=by
  unfold sortF;exact upF_ok _ _ _ _ (Nat.le_refl _) (by omega) (by rw[blkF_len _ _ _ _ (Nat.le_refl _)];exact Nat.le_refl _) (blkF_ok _ _ 0 l (Nat.le_refl _) (Nat.zero_le _) (Nat.le_refl _)).1
 have hl:(sortF l).length=l.length:=(sortF_perm l).length_eq;rw[List.pairwise_iff_getElem];intro i j hi hj hij;have:=h i j (Nat.zero_le _) hij (by omega);unfold gp at this;rw[List.getD_eq_getElem?_getD,List.getD_eq_getElem?_getD,List.getElem?_eq_getElem hi,List.getElem?_eq_getElem hj]at this;exact this
end NA
namespace NA
theorem add64_x (x y c:Int) (hx:0<=x) (hy:0<=y) (hc0:0<=c) (hc:c<=1):XCall prog 130 [] [U x,U y,U c] (.t [.c (.v (.x (.int .u64 ((x+y+c) % 18446744073709551616)))),.c (.v (.x (.int .u64 ((x+y+c) / 18446744073709551616))))]) []:=by
 intro own0 w ρ vs hm ha
 match vs,ha with
 | [a,b,d],⟨h1,h2,h3,_⟩ =>
  obtain ⟨rfl,_⟩:=rep_x h1;obtain ⟨rfl,_⟩:=rep_x h2;obtain ⟨rfl,_⟩:=rep_x h3;refine ⟨.tuple #[.int .u64 ((x+y+c) % 18446744073709551616),.int .u64 ((x+y+c) / 18446744073709551616)],ρ,?_,Sub.refl _,⟨[.int .u64 ((x+y+c) % 18446744073709551616),.int .u64 ((x+y+c) / 18446744073709551616)],rfl,?_,?_,trivial⟩,hm⟩
  .show (callFunc 130 #[.int .u64 x,.int .u64 y,.int .u64 c]).run prog w=_;rw[run_callFunc_extern func130 (by kernel_rfl) (by kernel_rfl) (by kernel_rfl) (e:=add64Entry) (by kernel_rfl),run_add64 x y c hx hy hc0 hc];rfl
  .exact rep_x_mk rfl
  .exact rep_x_mk rfl
end NA
end Eng
end Go.Proofs.YtgenjpingdkmgaaGreatDoor
