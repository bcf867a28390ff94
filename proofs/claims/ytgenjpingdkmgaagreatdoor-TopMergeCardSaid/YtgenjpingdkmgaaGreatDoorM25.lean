/- Contracts of functions that this seat's law calls. No condition. -/
import Derived.Test.YtgenjpingdkmgaaGreatDoorM24
set_option maxRecDepth 100000
set_option linter.unusedSimpArgs false
set_option linter.unusedVariables false
namespace Go.Proofs.YtgenjpingdkmgaaGreatDoor
namespace Eng
namespace NA
theorem swp_perm {l:List Pos} {i j:Nat} (h1:i<l.length) (h2:j<l.length):(swp l i j).Perm l:=by
 unfold swp
 rw[List.getD_eq_getElem?_getD,List.getD_eq_getElem?_getD,List.getElem?_eq_getElem h1,List.getElem?_eq_getElem h2]
 exact List.set_set_perm h1 h2
theorem insJ_perm (a:Nat):∀(j:Nat) (l:List Pos),j<l.length→(insJ a j l).Perm l
 | 0,l,_=>List.Perm.refl _
 | j+1,l,h=>by
  unfold insJ
  split
  ·exact (insJ_perm a j _ (by rw[Z2];omega)).trans (swp_perm h (by omega))
  ·exact List.Perm.refl _
theorem insI'_perm (a:Nat):∀(c i:Nat) (l:List Pos),i+c≤l.length→(insI' a c i l).Perm l
 | 0,_,l,_=>List.Perm.refl _
 | c+1,i,l,h=>by
  unfold insI'
  exact (insI'_perm a c (i+1) _ (by rw[insJ_len];omega)).trans (insJ_perm a i l (by omega))
theorem insS_perm (a b:Nat) (l:List Pos) (h:b≤l.length):(insS a b l).Perm l:=by
 unfold insS
 by_cases hb:a+1≤b
 ·exact insI'_perm a _ _ l (by omega)
 ·rw[show b - (a+1)=0 by omega];exact List.Perm.refl _
theorem swR_perm (a b:Nat):∀(c i:Nat) (l:List Pos),a+i+c≤l.length→b+i+c≤l.length→(swR a b c i l).Perm l
 | 0,_,l,_,_=>List.Perm.refl _
 | c+1,i,l,h1,h2=>by
  unfold swR
  exact (swR_perm a b c (i+1) _ (by rw[Z2];omega) (by rw[Z2];omega)).trans (swp_perm (by omega) (by omega))
theorem rotF_perm (m:Nat):∀(n i j:Nat) (l:List Pos),i+j≤n→i≤m→m+j≤l.length→(rotF m i j l).Perm l:=by
 intro n
 induction n with
 | zero=>intro i j l h _ _;rw[rotF,if_pos (by omega)]
 | succ n ih =>
  intro i j l h hi hj
  rw[rotF]
  split
  ·exact List.Perm.refl _
  ·split
   ·exact swR_perm _ _ _ _ _ (by omega) (by omega)
   ·split
    ·exact (ih _ _ _ (by omega) (by omega) (by rw[swR_len];omega)).trans (swR_perm _ _ _ _ _ (by omega) (by omega))
    ·exact (ih _ _ _ (by omega) (by omega) (by rw[swR_len];omega)).trans (swR_perm _ _ _ _ _ (by omega) (by omega))
theorem shU_perm:∀(c k:Nat) (l:List Pos),k+c<l.length→(shU c k l).Perm l
 | 0,_,l,_=>List.Perm.refl _
 | c+1,k,l,h=>by
  unfold shU
  exact (shU_perm c (k+1) _ (by rw[Z2];omega)).trans (swp_perm (by omega) (by omega))
theorem shD_perm:∀(c k:Nat) (l:List Pos),k<l.length→(shD c k l).Perm l
 | 0,_,l,_=>List.Perm.refl _
 | c+1,k,l,h=>by
  unfold shD
  exact (shD_perm c (k - 1) _ (by rw[Z2];omega)).trans (swp_perm (by omega) (by omega))
theorem symF_perm:∀(n:Nat) (l:List Pos) (a m b:Nat),b - a≤n→b≤l.length→(symF l a m b).Perm l:=by
 intro n
 induction n with
 | zero=>intro l a m b h _;rw[symF,if_neg (by omega)]
 | succ n ih =>
  intro l a m b h hb
  rw[symF]
  split
  ·rename_i hab
   split
   ·have:=srch_bd (fun h=>decide (cmpP (l.getD h default) (l.getD a default)<0)) _ m b (Nat.le_refl _) (by omega)
    exact shU_perm _ _ _ (by omega)
   ·split
    ·exact shD_perm _ _ _ (by omega)
    ·dsimp only
     obtain ⟨md,hmd⟩:∃md,(a+b) / 2=md:=⟨_,rfl⟩
     rw[hmd]
     have hS:=srch_bd (fun c=>!decide (cmpP (l.getD (md+m - 1 - c) default) (l.getD c default)<0)) _ (if md<m then md+m - b else a) (if md<m then md else m) (Nat.le_refl _) (by split<;>omega)
     generalize srch _ _ _=S at hS ⊢
     have hS2:S≤m∧md+m≤S+b∧S≤md:=by
      split at hS<;>omega
     obtain ⟨l1,hl1⟩:∃l1,(if S<m∧m<md+m - S then rotF m (m - S) (md+m - S - m) l else l)=l1:=⟨_,rfl⟩
     have e1:l1.Perm l:=by
      rw[←hl1]
      split
      ·exact rotF_perm _ _ _ _ _ (Nat.le_refl _) (by omega) (by omega)
      ·exact List.Perm.refl _
     rw[hl1]
     obtain ⟨l2,hl2⟩:∃l2,(if a<S∧S<md then symF l1 a S md else l1)=l2:=⟨_,rfl⟩
     have e2:l2.Perm l:=by
      rw[←hl2]
      split
      ·exact (ih _ _ _ _ (by omega) (by rw[e1.length_eq];omega)).trans e1
      ·exact e1
     rw[hl2]
     split
     ·exact (ih _ _ _ _ (by omega) (by rw[e2.length_eq];omega)).trans e2
     ·exact e2
  ·exact List.Perm.refl _
theorem blkF_perm (n:Nat):∀(k a:Nat) (l:List Pos),n - a≤k→n≤l.length→(blkF n a l).Perm l:=by
 intro k
 induction k with
 | zero=>intro a l h hn;rw[blkF,if_neg (by omega)];exact insS_perm _ _ _ hn
 | succ k ih =>
  intro a l h hn
  rw[blkF]
  split
  ·exact (ih _ _ (by omega) (by rw[insS_len];exact hn)).trans (insS_perm _ _ _ (by omega))
  ·exact insS_perm _ _ _ hn
theorem mrgF_perm (n bs:Nat):∀(k a:Nat) (l:List Pos),n - a≤k→n≤l.length→(mrgF n bs a l).Perm l:=by
 intro k
 induction k with
 | zero =>
  intro a l h hn
  rw[mrgF,if_neg (by omega)]
  split
  ·exact symF_perm _ _ _ _ _ (Nat.le_refl _) hn
  ·exact List.Perm.refl _
 | succ k ih =>
  intro a l h hn
  rw[mrgF]
  split
  ·exact (ih _ _ (by omega) (by rw[symF_len _ _ _ _ _ (Nat.le_refl _)];exact hn)).trans (symF_perm _ _ _ _ _ (Nat.le_refl _) (by omega))
  ·split
   ·exact symF_perm _ _ _ _ _ (Nat.le_refl _) hn
   ·exact List.Perm.refl _
theorem upF_perm (n:Nat):∀(k bs:Nat) (l:List Pos),n - bs≤k→n≤l.length→(upF n bs l).Perm l:=by
 intro k
 induction k with
 | zero=>intro bs l h hn;rw[upF,if_neg (by omega)]
 | succ k ih =>
  intro bs l h hn
  rw[upF]
  split
  ·exact (ih _ _ (by omega) (by rw[mrgF_len _ _ _ _ _ (Nat.le_refl _)];exact hn)).trans (mrgF_perm _ _ _ _ _ (Nat.le_refl _) hn)
  ·exact List.Perm.refl _
theorem sortF_perm (l:List Pos):(sortF l).Perm l:=by
 unfold sortF
 exact (upF_perm _ _ _ _ (Nat.le_refl _) (by rw[blkF_len _ _ _ _ (Nat.le_refl _)];exact Nat.le_refl _)).trans (blkF_perm _ _ _ _ (Nat.le_refl _) (Nat.le_refl _))
def leP (x y:Pos):Prop:=cmpP x y≤0
theorem leP_refl (x:Pos):leP x x:=by
 have:=Yp x x
 unfold leP;omega
theorem Yh {x y z:Pos} (h1:leP x y) (h2:leP y z):leP x z:=by
 unfold leP at *
 by_cases e1:cmpP x y=0
 ·obtain ⟨a,b⟩:=cmpP_eq.1 e1
  have:cmpP x z=cmpP y z:=by unfold cmpP;rw[a,b]
  omega
 ·by_cases e2:cmpP y z=0
  ·obtain ⟨a,b⟩:=cmpP_eq.1 e2
   have:cmpP x z=cmpP x y:=by unfold cmpP;rw[a,b]
   omega
  ·have:=cmpP_trans (a:=x) (b:=y) (c:=z) (by omega) (by omega)
   omega
theorem leP_total (x y:Pos):leP x y∨leP y x:=by
 have:=Yp x y
 unfold leP;omega
theorem not_lt {x y:Pos}:¬cmpP x y<0↔leP y x:=by
 have:=Yp x y
 unfold leP;omega
abbrev gp (l:List Pos) (i:Nat):Pos:=l.getD i default
def SortedOn (l:List Pos) (a b:Nat):Prop:=∀i j,a≤i→i<j→j<b→leP (gp l i) (gp l j)
theorem gp_set {l:List Pos} {i j:Nat} {x:Pos} (h:i<l.length):gp (l.set i x) j=if j=i then x else gp l j:=by
 unfold gp
 rw[List.getD_eq_getElem?_getD,List.getElem?_set]
 by_cases e:i=j
 ·subst e;rw[if_pos rfl,if_pos h,if_pos rfl];rfl
 ·rw[if_neg e,if_neg (fun h=>e h.symm),List.getD_eq_getElem?_getD]
theorem gp_swp {l:List Pos} {i j k:Nat} (h1:i<l.length) (h2:j<l.length):gp (swp l i j) k=if k=j then gp l i else if k=i then gp l j else gp l k:=by
 unfold swp
 rw[gp_set (by simpa using h2)]
 split
 ·rfl
 ·rw[gp_set h1]
structure HoleP (l:List Pos) (a j e:Nat):Prop where
 so:∀i k,a≤i→i<k→k≤e→i≠j→k≠j→leP (gp l i) (gp l k)
 up:∀k,j<k→k≤e→leP (gp l j) (gp l k)
theorem insJ_sorts (a e:Nat):∀(j:Nat) (l:List Pos),a≤j→j≤e→e<l.length→HoleP l a j e→SortedOn (insJ a j l) a (e+1)
 | 0,l,ha,hj,he,h=>fun i k h1 h2 h3=>by
  show leP (gp l i) (gp l k)
  by_cases hi:i=0
  ·subst hi;exact h.up k h2 (by omega)
  ·exact h.so i k h1 h2 (by omega) hi (by omega)
 | j+1,l,ha,hj,he,h=>by
  unfold insJ
  split
  ·rename_i hc
   refine insJ_sorts a e j _ (by omega) (by omega) (by rw[Z2];exact he) ⟨fun i k h1 h2 h3 h4 h5=>?_,fun k h1 h2=>?_⟩
   ·rw[gp_swp (by omega) (by omega),gp_swp (by omega) (by omega),if_neg h4,if_neg h5]
    by_cases hi:i=j+1
    ·rw[if_pos hi,if_neg (by omega)]
     exact h.so j k (by omega) (by omega) h3 (by omega) (by omega)
    ·rw[if_neg hi]
     by_cases hk:k=j+1
     ·rw[if_pos hk]
      exact h.so i j h1 (by omega) (by omega) hi (by omega)
     ·rw[if_neg hk]
      exact h.so i k h1 h2 h3 hi hk
   ·rw[gp_swp (by omega) (by omega),gp_swp (by omega) (by omega),if_pos rfl,if_neg (by omega)]
    by_cases hk:k=j+1
    ·rw[if_pos hk];unfold leP;exact Int.le_of_lt hc.2
    ·rw[if_neg hk];exact h.up k (by omega) h2
  ·rename_i hc
   intro i k h1 h2 h3
   by_cases hi:i=j+1
   ·subst hi;exact h.up k h2 (by omega)
   ·by_cases hk:k=j+1
    ·subst hk
     have hle:leP (gp l j) (gp l (j+1)):=not_lt.1 (fun hh=>hc ⟨by omega,hh⟩)
     by_cases hij:i=j
     ·subst hij;exact hle
     ·exact Yh (h.so i j h1 (by omega) (by omega) hi (by omega)) hle
    ·exact h.so i k h1 h2 (by omega) hi hk
theorem insJ_out (a:Nat):∀(j:Nat) (l:List Pos) (k:Nat),j<l.length→(k<a∨j<k)→gp (insJ a j l) k=gp l k
 | 0,l,k,_,_=>rfl
 | j+1,l,k,hj,hk=>by
  unfold insJ
  split
  ·rename_i hc
   rw[insJ_out a j _ k (by rw[Z2];omega) (by omega),gp_swp (by omega) (by omega),if_neg (by omega),if_neg (by omega)]
  ·rfl
theorem insI'_sorts (a:Nat):∀(c i:Nat) (l:List Pos),a≤i→i+c≤l.length→SortedOn l a i→SortedOn (insI' a c i l) a (i+c)
 | 0,i,l,_,_,h=>h
 | c+1,i,l,ha,hi,h=>by
  unfold insI'
  rw[show i+(c+1)=i+1+c by omega]
  refine insI'_sorts a c (i+1) _ (by omega) (by rw[insJ_len];omega) ?_
  exact insJ_sorts a i i l ha (Nat.le_refl _) (by omega) ⟨fun x k h1 h2 h3 h4 h5=>h x k h1 h2 (by omega),fun k h1 h2=>by omega⟩
theorem insI'_out (a:Nat):∀(c i:Nat) (l:List Pos) (k:Nat),a≤i→i+c≤l.length→(k<a∨i+c≤k)→gp (insI' a c i l) k=gp l k
 | 0,_,l,k,_,_,_=>rfl
 | c+1,i,l,k,ha,hi,hk=>by
  unfold insI'
  rw[insI'_out a c (i+1) _ k (by omega) (by rw[insJ_len];omega) (by omega),insJ_out a i l k (by omega) (by omega)]
theorem insS_sorts {a b:Nat} {l:List Pos} (hab:a≤b) (hb:b≤l.length):SortedOn (insS a b l) a b:=by
 unfold insS
 by_cases h:a+1≤b
 ·have:=insI'_sorts a (b - (a+1)) (a+1) l (by omega) (by omega) (fun i j h1 h2 h3=>by omega)
  rw[show a+1+(b - (a+1))=b by omega]at this
  exact this
 ·exact fun i j h1 h2 h3=>by omega
theorem insS_out {a b:Nat} {l:List Pos} {k:Nat} (hab:a≤b) (hb:b≤l.length) (hk:k<a∨b≤k):gp (insS a b l) k=gp l k:=by
 unfold insS
 by_cases h:a+1≤b
 ·exact insI'_out a _ _ l k (by omega) (by omega) (by omega)
 ·rw[show b - (a+1)=0 by omega];rfl
theorem swR_gp (a b:Nat):∀(c i:Nat) (l:List Pos) (k:Nat),a+i+c≤b+i→b+i+c≤l.length →
 gp (swR a b c i l) k=if a+i≤k∧k<a+i+c then gp l (b+(k - a)) else if b+i≤k∧k<b+i+c then gp l (a+(k - b)) else gp l k
 | 0,i,l,k,_,_=>by
  unfold swR
  rw[if_neg (by omega),if_neg (by omega)]
 | c+1,i,l,k,h1,h2=>by
  unfold swR
  rw[swR_gp a b c (i+1) _ k (by omega) (by rw[Z2];omega)]
  by_cases e1:k=a+i
  ·subst e1
   rw[if_neg (by omega),if_neg (by omega),if_pos (by omega),gp_swp (by omega) (by omega),if_neg (by omega),if_pos rfl]
   congr 1;omega
  ·by_cases e2:k=b+i
   ·subst e2
    rw[if_neg (by omega),if_neg (by omega),if_neg (by omega),if_pos (by omega),gp_swp (by omega) (by omega),if_pos rfl]
    congr 1;omega
   ·by_cases e3:a+(i+1)≤k∧k<a+(i+1)+c
    ·rw[if_pos e3,if_pos (by omega),gp_swp (by omega) (by omega),if_neg (by omega),if_neg (by omega)]
    ·rw[if_neg e3]
     by_cases e4:b+(i+1)≤k∧k<b+(i+1)+c
     ·rw[if_pos e4,if_neg (by omega),if_pos (by omega),gp_swp (by omega) (by omega),if_neg (by omega),if_neg (by omega)]
     ·rw[if_neg e4,if_neg (by omega),if_neg (by omega),gp_swp (by omega) (by omega),if_neg e2,if_neg e1]
theorem rotF_gp (m:Nat):∀(n i j:Nat) (l:List Pos) (k:Nat),i+j≤n→0<i→0<j→i≤m→m+j≤l.length →
 gp (rotF m i j l) k=if m - i≤k∧k<m - i+j then gp l (k+i) else if m - i+j≤k∧k<m+j then gp l (k - j) else gp l k:=by
 intro n
 induction n with
 | zero=>intro i j l k h h1 h2;omega
 | succ n ih =>
  intro i j l k h h1 h2 hi hj
  rw[rotF,if_neg (by omega)]
  by_cases hij:i=j
  ·subst hij
   rw[if_pos rfl,swR_gp _ _ _ _ _ _ (by omega) (by omega)]
   by_cases e1:m - i≤k∧k<m - i+i
   ·rw[if_pos (by omega),if_pos e1];congr 1;omega
   ·rw[if_neg (by omega),if_neg e1]
    by_cases e2:m - i+i≤k∧k<m+i
    ·rw[if_pos (by omega),if_pos e2];congr 1;omega
    ·rw[if_neg (by omega),if_neg e2]
  ·rw[if_neg hij]
   by_cases hlt:j<i
   ·rw[if_pos hlt,ih (i - j) j _ k (by omega) (by omega) h2 (by omega) (by rw[swR_len];omega)]
    have sw:=fun k=>swR_gp (m - i) m j 0 l k (by omega) (by omega)
    by_cases e1:m - i≤k∧k<m - i+j
    ·rw[if_neg (by omega),if_neg (by omega),if_pos e1,sw,if_pos (by omega)];congr 1;omega
    ·rw[if_neg e1]
     by_cases e2:m - i+j≤k∧k<m+j
     ·rw[if_pos e2]
      by_cases e3:m - (i - j)≤k∧k<m - (i - j)+j
      ·rw[if_pos e3,sw]
       by_cases e4:m≤k+(i - j)
       ·rw[if_neg (by omega),if_pos (by omega)];congr 1;omega
       ·rw[if_neg (by omega),if_neg (by omega)];congr 1;omega
      ·rw[if_neg e3,if_pos (by omega),sw]
       by_cases e4:m≤k - j
       ·rw[if_neg (by omega),if_pos (by omega)];congr 1;omega
       ·rw[if_neg (by omega),if_neg (by omega)]
     ·rw[if_neg e2,if_neg (by omega),if_neg (by omega),sw,if_neg (by omega),if_neg (by omega)]
   ·rw[if_neg hlt,ih i (j - i) _ k (by omega) h1 (by omega) hi (by rw[swR_len];omega)]
    have sw:=fun k=>swR_gp (m - i) (m+j - i) i 0 l k (by omega) (by omega)
    by_cases e1:m - i≤k∧k<m - i+(j - i)
    ·rw[if_pos e1,if_pos (by omega),sw,if_neg (by omega),if_neg (by omega)]
    ·rw[if_neg e1]
     by_cases e2:m - i+(j - i)≤k∧k<m+(j - i)
     ·rw[if_pos e2,if_pos (by omega),sw,if_pos (by omega)];congr 1;omega
     ·rw[if_neg e2,if_neg (by omega),sw,if_neg (by omega)]
      by_cases e3:m - i+j≤k∧k<m+j
      ·rw[if_pos e3,if_pos (by omega)];congr 1;omega
      ·rw[if_neg e3,if_neg (by omega)]
theorem srch_spec (Q:Nat→Bool):∀(n lo hi:Nat),hi - lo≤n→lo≤hi→(∀x y,lo≤x→x<y→y<hi→Q y=true→Q x=true) →
 (∀x,lo≤x→x<srch Q lo hi→Q x=true)∧(∀x,srch Q lo hi≤x→x<hi→Q x=false):=by
 intro n
 induction n with
 | zero=>intro lo hi h1 h2 _;rw[srch,if_neg (by omega)];exact ⟨fun x a b=>by omega,fun x a b=>by omega⟩
 | succ n ih =>
  intro lo hi h1 h2 hm
  rw[srch]
  by_cases hlt:lo<hi
  ·rw[if_pos hlt]
   obtain ⟨c,hc⟩:∃c,(lo+hi) / 2=c:=⟨_,rfl⟩
   have hcb:lo≤c∧c<hi:=by omega
   rw[hc]
   by_cases hq:Q c=true
   ·rw[if_pos hq]
    have bd:=srch_bd Q _ (c+1) hi (Nat.le_refl _) (by omega)
    obtain ⟨i1,i2⟩:=ih (c+1) hi (by omega) (by omega) (fun x y a b d e=>hm x y (by omega) b d e)
    refine ⟨fun x a b=>?_,i2⟩
    rcases Nat.lt_or_ge c x with h|h
    ·exact i1 x h b
    ·rcases Nat.lt_or_eq_of_le h with h|rfl
     ·exact hm x c a h hcb.2 hq
     ·exact hq
   ·rw[if_neg hq]
    have bd:=srch_bd Q _ lo c (Nat.le_refl _) (by omega)
    obtain ⟨i1,i2⟩:=ih lo c (by omega) (by omega) (fun x y a b d e=>hm x y a b (by omega) e)
    refine ⟨i1,fun x a b=>?_⟩
    rcases Nat.lt_or_ge x c with h|h
    ·exact i2 x a h
    ·rcases Nat.lt_or_eq_of_le h with h|rfl
     ·cases hx:Q x with
      | false=>rfl
      | true=>exact absurd (hm c x hcb.1 h b hx) hq
     ·simpa using hq
  ·rw[if_neg hlt]
   exact ⟨fun x a b=>by omega,fun x a b=>by omega⟩
theorem shU_gp:∀(c k:Nat) (l:List Pos) (x:Nat),k+c<l.length →
 gp (shU c k l) x=if x=k+c then gp l k else if k≤x∧x<k+c then gp l (x+1) else gp l x
 | 0,k,l,x,_=>by
  unfold shU
  by_cases h:x=k
  ·subst h;rw[if_pos (by omega)]
  ·rw[if_neg (by omega),if_neg (by omega)]
 | c+1,k,l,x,h=>by
  unfold shU
  rw[shU_gp c (k+1) _ x (by rw[Z2];omega)]
  have sw:=fun y=>gp_swp (l:=l) (i:=k) (j:=k+1) (k:=y) (by omega) (by omega)
  by_cases e1:x=k+(c+1)
  ·rw[if_pos (by omega),if_pos e1,sw,if_pos rfl]
  ·rw[if_neg (by omega),if_neg e1]
   by_cases e2:x=k
   ·subst e2
    rw[if_neg (by omega),if_pos (by omega),sw,if_neg (by omega),if_pos rfl]
   ·by_cases e3:k+1≤x∧x<k+1+c
    ·rw[if_pos e3,if_pos (by omega),sw,if_neg (by omega),if_neg (by omega)]
    ·rw[if_neg e3,if_neg (by omega),sw,if_neg (by omega),if_neg e2]
theorem shD_gp:∀(c k:Nat) (l:List Pos) (x:Nat),c≤k→k<l.length →
 gp (shD c k l) x=if x=k - c then gp l k else if k - c<x∧x≤k then gp l (x - 1) else gp l x
 | 0,k,l,x,_,_=>by
  unfold shD
  by_cases h:x=k
  ·subst h;rw[if_pos (by omega)]
  ·rw[if_neg (by omega),if_neg (by omega)]
 | c+1,k,l,x,h,hk=>by
  unfold shD
  rw[shD_gp c (k - 1) _ x (by omega) (by rw[Z2];omega)]
  have sw:=fun y=>gp_swp (l:=l) (i:=k) (j:=k - 1) (k:=y) (by omega) (by omega)
  by_cases e1:x=k - (c+1)
  ·rw[if_pos (by omega),if_pos e1,sw,if_pos rfl]
  ·rw[if_neg (by omega),if_neg e1]
   by_cases e2:x=k
   ·subst e2
    rw[if_neg (by omega),if_pos (by omega),sw,if_neg (by omega),if_pos rfl]
   ·by_cases e3:k - 1 - c<x∧x≤k - 1
    ·rw[if_pos e3,if_pos (by omega),sw,if_neg (by omega),if_neg (by omega)]
    ·rw[if_neg e3,if_neg (by omega),sw,if_neg (by omega),if_neg e2]
structure SymOk (l r:List Pos) (a b:Nat):Prop where
 so:SortedOn r a b
 mem:∀k,a≤k→k<b→∃x,a≤x∧x<b∧gp r k=gp l x
 out:∀k,(k<a∨b≤k)→gp r k=gp l k
theorem SortedOn.le {l:List Pos} {a b i j:Nat} (h:SortedOn l a b) (h1:a≤i) (h2:i≤j) (h3:j<b):leP (gp l i) (gp l j):=by
 rcases Nat.lt_or_eq_of_le h2 with h4|rfl
 ·exact h i j h1 h4 h3
 ·exact leP_refl _
theorem lt_le {x y:Pos} (h:cmpP x y<0):leP x y:=Int.le_of_lt h
theorem symF_none {l:List Pos} {a m b:Nat} (h:¬(a<m∧m<b)):symF l a m b=l:=by rw[symF,if_neg h]
theorem sym_triv {l:List Pos} {a m b:Nat} (h:¬(a<m∧m<b)) (ham:a≤m) (hmb:m≤b) (h1:SortedOn l a m) (h2:SortedOn l m b):SymOk l (symF l a m b) a b:=by
 rw[symF_none h]
 refine ⟨?_,fun k h1 h2=>⟨k,h1,h2,rfl⟩,fun _ _=>rfl⟩
 by_cases e:a=m
 ·subst e;exact h2
 ·obtain rfl:m=b:=by omega
  exact h1
theorem sym_one {l:List Pos} {a m b:Nat} (ha:a<m) (hb:m<b) (hl:b≤l.length) (h1:m - a=1) (h2:SortedOn l m b) :
 SymOk l (shU (srch (fun h=>decide (cmpP (l.getD h default) (l.getD a default)<0)) m b - 1 - a) a l) a b:=by
 have bd:=srch_bd (fun h=>decide (cmpP (l.getD h default) (l.getD a default)<0)) _ m b (Nat.le_refl _) (by omega)
 have sp:=srch_spec (fun h=>decide (cmpP (l.getD h default) (l.getD a default)<0)) _ m b (Nat.le_refl _) (by omega) (fun x y e1 e2 e3 e4=>by
  have e4:=of_decide_eq_true e4
  have:=h2 x y e1 e2 e3
  refine decide_eq_true ?_
  have e5:¬leP (gp l a) (gp l y):=fun h=>(not_lt.2 h) e4
  exact Classical.not_not.1 fun h=>e5 (Yh (not_lt.1 h) this))
 generalize srch _ m b=i at bd sp ⊢
 obtain ⟨s1,s2⟩:=sp
 have s1:∀x,m≤x→x<i→leP (gp l x) (gp l a):=fun x e1 e2=>lt_le (of_decide_eq_true (s1 x e1 e2))
 have s2:∀x,i≤x→x<b→leP (gp l a) (gp l x):=fun x e1 e2=>not_lt.1 (of_decide_eq_false (s2 x e1 e2))
 have gpx:=fun x=>shU_gp (i - 1 - a) a l x (by omega)
 have g1:gp (shU (i - 1 - a) a l) (i - 1)=gp l a:=by rw[gpx,if_pos (by omega)]
 have g2:∀x,a≤x→x<i - 1→gp (shU (i - 1 - a) a l) x=gp l (x+1):=fun x e1 e2=>by rw[gpx,if_neg (by omega),if_pos (by omega)]
 have g3:∀x,(x<a∨i - 1<x)→gp (shU (i - 1 - a) a l) x=gp l x:=fun x e1=>by rw[gpx,if_neg (by omega),if_neg (by omega)]
 refine ⟨fun x y e1 e2 e3=>?_,fun x e1 e2=>?_,fun x e1=>g3 x (by omega)⟩
 ·by_cases p1:x<i - 1
  ·rw[g2 x e1 p1]
   by_cases p2:y<i - 1
   ·rw[g2 y (by omega) p2];exact h2 _ _ (by omega) (by omega) (by omega)
   ·by_cases p3:y=i - 1
    ·rw[p3,g1];exact s1 _ (by omega) (by omega)
    ·rw[g3 y (by omega)];exact h2 _ _ (by omega) (by omega) (by omega)
  ·by_cases p2:x=i - 1
   ·rw[p2,g1,g3 y (by omega)];exact s2 _ (by omega) (by omega)
   ·rw[g3 x (by omega),g3 y (by omega)];exact h2 _ _ (by omega) e2 e3
 ·by_cases p1:x<i - 1
  ·exact ⟨x+1,by omega,by omega,g2 x e1 p1⟩
  ·by_cases p2:x=i - 1
   ·exact ⟨a,by omega,by omega,by rw[p2,g1]⟩
   ·exact ⟨x,e1,e2,g3 x (by omega)⟩
theorem sym_last {l:List Pos} {a m b:Nat} (ha:a<m) (hb:m<b) (hl:b≤l.length) (h1:b - m=1) (h2:SortedOn l a m) :
 SymOk l (shD (m - srch (fun h=>!decide (cmpP (l.getD m default) (l.getD h default)<0)) a m) m l) a b:=by
 have bd:=srch_bd (fun h=>!decide (cmpP (l.getD m default) (l.getD h default)<0)) _ a m (Nat.le_refl _) (by omega)
 have cv:∀x,(!decide (cmpP (l.getD m default) (l.getD x default)<0))=true↔leP (gp l x) (gp l m):=fun x=>by
  rw[Bool.not_eq_true',decide_eq_false_iff_not];exact not_lt
 have sp:=srch_spec (fun h=>!decide (cmpP (l.getD m default) (l.getD h default)<0)) _ a m (Nat.le_refl _) (by omega) (fun x y e1 e2 e3 e4=>by
  have e4:=(cv y).1 e4
  exact (cv x).2 (Yh (h2 x y e1 e2 e3) e4))
 generalize srch _ a m=i at bd sp ⊢
 obtain ⟨s1,s2⟩:=sp
 have s1:∀x,a≤x→x<i→leP (gp l x) (gp l m):=fun x e1 e2=>(cv x).1 (s1 x e1 e2)
 have s2:∀x,i≤x→x<m→leP (gp l m) (gp l x):=fun x e1 e2=>by
  have:=s2 x e1 e2
  rw[Bool.not_eq_false',decide_eq_true_iff]at this
  exact lt_le this
 have gpx:=fun x=>shD_gp (m - i) m l x (by omega) (by omega)
 have g1:gp (shD (m - i) m l) i=gp l m:=by rw[gpx,if_pos (by omega)]
 have g2:∀x,i<x→x≤m→gp (shD (m - i) m l) x=gp l (x - 1):=fun x e1 e2=>by rw[gpx,if_neg (by omega),if_pos (by omega)]
 have g3:∀x,(x<i∨m<x)→gp (shD (m - i) m l) x=gp l x:=fun x e1=>by rw[gpx,if_neg (by omega),if_neg (by omega)]
 refine ⟨fun x y e1 e2 e3=>?_,fun x e1 e2=>?_,fun x e1=>g3 x (by omega)⟩
 ·by_cases p1:x<i
  ·rw[g3 x (by omega)]
   by_cases p2:y<i
   ·rw[g3 y (by omega)];exact h2 _ _ (by omega) (by omega) (by omega)
   ·by_cases p3:y=i
    ·rw[p3,g1];exact s1 _ (by omega) (by omega)
    ·rw[g2 y (by omega) (by omega)];exact h2.le (by omega) (by omega) (by omega)
  ·by_cases p2:x=i
   ·rw[p2,g1,g2 y (by omega) (by omega)];exact s2 _ (by omega) (by omega)
   ·rw[g2 x (by omega) (by omega),g2 y (by omega) (by omega)];exact h2 _ _ (by omega) (by omega) (by omega)
 ·by_cases p1:x<i
  ·exact ⟨x,e1,e2,g3 x (by omega)⟩
  ·by_cases p2:x=i
   ·exact ⟨m,by omega,by omega,by rw[p2,g1]⟩
   ·exact ⟨x - 1,by omega,by omega,g2 x (by omega) (by omega)⟩
theorem symF_ok:∀(n:Nat) (l:List Pos) (a m b:Nat),b - a≤n→a≤m→m≤b→b≤l.length→SortedOn l a m→SortedOn l m b→SymOk l (symF l a m b) a b:=by
 intro n
 induction n with
 | zero=>intro l a m b h ham hmb _ h1 h2;exact sym_triv (by omega) ham hmb h1 h2
 | succ n ih =>
  intro l a m b h ham hmb hb h1 h2
  by_cases hab:a<m∧m<b
  ·rw[symF,if_pos hab]
   by_cases hm1:m - a=1
   ·rw[if_pos hm1];exact sym_one hab.1 hab.2 hb hm1 h2
   ·rw[if_neg hm1]
    by_cases hm2:b - m=1
    ·rw[if_pos hm2];exact sym_last hab.1 hab.2 hb hm2 h1
    ·rw[if_neg hm2]
     dsimp only
     obtain ⟨md,hmd⟩:∃md,(a+b) / 2=md:=⟨_,rfl⟩
     rw[hmd]
     have cv:∀x,(!decide (cmpP (l.getD (md+m - 1 - x) default) (l.getD x default)<0))=true↔leP (gp l x) (gp l (md+m - 1 - x)):=fun x=>by
      rw[Bool.not_eq_true',decide_eq_false_iff_not];exact not_lt
     obtain ⟨lo,hlo⟩:∃lo,(if md<m then md+m - b else a)=lo:=⟨_,rfl⟩
     obtain ⟨hi,hhi⟩:∃hi,(if md<m then md else m)=hi:=⟨_,rfl⟩
     have hlh:lo≤hi∧a≤lo∧hi≤m∧md+m≤lo+b∧hi≤md∧(lo=a∨md+m=lo+b)∧(hi=m∨hi=md):=by
      rw[←hlo,←hhi];split<;>omega
     rw[hlo,hhi]
     have bd:=srch_bd (fun c=>!decide (cmpP (l.getD (md+m - 1 - c) default) (l.getD c default)<0)) _ lo hi (Nat.le_refl _) hlh.1
     have sp:=srch_spec (fun c=>!decide (cmpP (l.getD (md+m - 1 - c) default) (l.getD c default)<0)) _ lo hi (Nat.le_refl _) hlh.1 (fun x y e1 e2 e3 e4=>by
      have e4:=(cv y).1 e4
      exact (cv x).2 (Yh (Yh (h1 x y (by omega) e2 (by omega)) e4) (h2.le (by omega) (by omega) (by omega))))
     generalize srch _ lo hi=S at bd sp ⊢
     obtain ⟨s1,s2⟩:=sp
     have s1:∀x,lo≤x→x<S→leP (gp l x) (gp l (md+m - 1 - x)):=fun x e1 e2=>(cv x).1 (s1 x e1 e2)
     have s2:∀x,S≤x→x<hi→leP (gp l (md+m - 1 - x)) (gp l x):=fun x e1 e2=>by
      have:=s2 x e1 e2
      rw[Bool.not_eq_false',decide_eq_true_iff]at this
      exact lt_le this
     obtain ⟨E,hE⟩:∃E,md+m - S=E:=⟨_,rfl⟩
     rw[hE]
     have hSE:a≤S∧S≤m∧m≤E∧E≤b∧S≤md∧md≤E∧S+E=md+m:=by omega
     obtain ⟨l1,hl1⟩:∃l1,(if S<m∧m<E then rotF m (m - S) (E - m) l else l)=l1:=⟨_,rfl⟩
     rw[hl1]
     have hlen:l1.length=l.length:=by
      rw[←hl1];split
      ·exact rotF_len _ _ _ _ _ (Nat.le_refl _)
      ·rfl
     have g1:∀k,S≤k→k<md→gp l1 k=gp l (k+(m - S)):=fun k e1 e2=>by
      rw[←hl1];split
      ·rw[rotF_gp m _ _ _ l k (Nat.le_refl _) (by omega) (by omega) (by omega) (by omega),if_pos (by omega)]
      ·congr 1;omega
     have g2:∀k,md≤k→k<E→gp l1 k=gp l (k - (E - m)):=fun k e1 e2=>by
      rw[←hl1];split
      ·rw[rotF_gp m _ _ _ l k (Nat.le_refl _) (by omega) (by omega) (by omega) (by omega),if_neg (by omega),if_pos (by omega)]
      ·congr 1;omega
     have g3:∀k,(k<S∨E≤k)→gp l1 k=gp l k:=fun k e1=>by
      rw[←hl1];split
      ·rw[rotF_gp m _ _ _ l k (Nat.le_refl _) (by omega) (by omega) (by omega) (by omega),if_neg (by omega),if_neg (by omega)]
      ·rfl
     have x1:(if a<S∧S<md then symF l1 a S md else l1)=symF l1 a S md:=by
      split
      ·rfl
      ·rename_i hh;rw[symF_none hh]
     rw[x1]
     have i1:=ih l1 a S md (by omega) (by omega) (by omega) (by omega) (fun x y e1 e2 e3=>by
      rw[g3 x (by omega),g3 y (by omega)];exact h1 x y e1 e2 (by omega)) (fun x y e1 e2 e3=>by
      rw[g1 x (by omega) (by omega),g1 y (by omega) (by omega)];exact h2 _ _ (by omega) (by omega) (by omega))
     have hlen2:(symF l1 a S md).length=l.length:=by rw[symF_len _ _ _ _ _ (Nat.le_refl _),hlen]
     generalize symF l1 a S md=l2 at i1 hlen2 ⊢
     have x2:(if md<E∧E<b then symF l2 md E b else l2)=symF l2 md E b:=by
      split
      ·rfl
      ·rename_i hh;rw[symF_none hh]
     rw[x2]
     have i2:=ih l2 md E b (by omega) (by omega) (by omega) (by omega) (fun x y e1 e2 e3=>by
      rw[i1.out x (by omega),i1.out y (by omega),g2 x (by omega) (by omega),g2 y (by omega) (by omega)];exact h1 _ _ (by omega) (by omega) (by omega)) (fun x y e1 e2 e3=>by
      rw[i1.out x (by omega),i1.out y (by omega),g3 x (by omega),g3 y (by omega)];exact h2 _ _ (by omega) (by omega) (by omega))
     generalize symF l2 md E b=l3 at i2 ⊢
     have m1:∀k,a≤k→k<md→∃x,((a≤x∧x<S)∨(m≤x∧x<E))∧gp l3 k=gp l x:=fun k e1 e2=>by
      obtain ⟨x,p1,p2,p3⟩:=i1.mem k e1 e2
      rw[i2.out k (by omega),p3]
      by_cases p4:x<S
      ·exact ⟨x,.inl ⟨p1,p4⟩,g3 x (by omega)⟩
      ·exact ⟨x+(m - S),.inr (by omega),g1 x (by omega) (by omega)⟩
     have m2:∀k,md≤k→k<b→∃x,((S≤x∧x<m)∨(E≤x∧x<b))∧gp l3 k=gp l x:=fun k e1 e2=>by
      obtain ⟨x,p1,p2,p3⟩:=i2.mem k e1 e2
      rw[p3,i1.out x (by omega)]
      by_cases p4:E≤x
      ·exact ⟨x,.inr ⟨p4,p2⟩,g3 x (by omega)⟩
      ·exact ⟨x - (E - m),.inl (by omega),g2 x (by omega) (by omega)⟩
     refine ⟨fun x y e1 e2 e3=>?_,fun k e1 e2=>?_,fun k e1=>?_⟩
     ·by_cases p1:y<md
      ·rw[i2.out x (by omega),i2.out y (by omega)];exact i1.so x y e1 e2 p1
      ·by_cases p2:md≤x
       ·exact i2.so x y p2 e2 e3
       ·obtain ⟨u,u1,u2⟩:=m1 x e1 (by omega)
        obtain ⟨v,v1,v2⟩:=m2 y (by omega) e3
        rw[u2,v2]
        rcases u1 with u1|u1<;>rcases v1 with v1|v1
        ·exact h1 _ _ (by omega) (by omega) (by omega)
        ·by_cases hS:S=lo
         ·exfalso;omega
         ·have:=s1 (S - 1) (by omega) (by omega)
          rw[show md+m - 1 - (S - 1)=E by omega]at this
          exact Yh (Yh (h1.le (by omega) (by omega) (by omega)) this) (h2.le (by omega) v1.1 v1.2)
        ·by_cases hS:S=hi
         ·exfalso;omega
         ·have:=s2 S (by omega) (by omega)
          exact Yh (Yh (h2.le u1.1 (by omega) (by omega)) this) (h1.le (by omega) v1.1 (by omega))
        ·exact h2 _ _ (by omega) (by omega) (by omega)
     ·by_cases p1:k<md
      ·obtain ⟨u,u1,u2⟩:=m1 k e1 p1
       exact ⟨u,by omega,by omega,u2⟩
      ·obtain ⟨u,u1,u2⟩:=m2 k (by omega) e2
       exact ⟨u,by omega,by omega,u2⟩
     ·rw[i2.out k (by omega),i1.out k (by omega),g3 k (by omega)]
  ·exact sym_triv hab ham hmb h1 h2
def Runs (l:List Pos) (a n bs:Nat):Prop:=∀c,SortedOn l (a+c*bs) (min (a+c*bs+bs) n)
theorem SortedOn.congr {l r:List Pos} {a b:Nat} (h:SortedOn l a b) (e:∀k,a≤k→k<b→gp r k=gp l k):SortedOn r a b:=fun i j h1 h2 h3=>by
 rw[e i h1 (by omega),e j (by omega) h3];exact h i j h1 h2 h3
theorem SortedOn.sub {l:List Pos} {a b c d:Nat} (h:SortedOn l a b) (h1:a≤c) (h2:d≤b):SortedOn l c d:=fun i j p1 p2 p3=>h i j (by omega) p2 (by omega)
theorem Runs.cons {l:List Pos} {a n bs:Nat} (h0:SortedOn l a (min (a+bs) n)) (h:Runs l (a+bs) n bs):Runs l a n bs:=fun c=>by
 cases c with
 | zero=>rw[Nat.zero_mul];exact h0
 | succ c=>have:=h c;rw[show a+(c+1)*bs=a+bs+c*bs by rw[Nat.succ_mul];omega];exact this
theorem Runs.tail {l:List Pos} {a n bs:Nat} (h:Runs l a n bs):Runs l (a+bs) n bs:=fun c=>by
 have:=h (c+1)
 rw[show a+(c+1)*bs=a+bs+c*bs by rw[Nat.succ_mul];omega]at this;exact this
theorem Runs.head {l:List Pos} {a n bs:Nat} (h:Runs l a n bs):SortedOn l a (min (a+bs) n):=by
 have:=h 0;rw[Nat.zero_mul]at this;exact this
theorem Runs.none {l:List Pos} {a n bs:Nat} (h:n≤a):Runs l a n bs:=fun c i j h1 h2 h3=>by omega
theorem Runs.congr {l r:List Pos} {a n bs:Nat} (h:Runs l a n bs) (e:∀k,a≤k→gp r k=gp l k):Runs r a n bs:=fun c =>
 (h c).congr fun k h1 _=>e k (by omega)
theorem blkF_ok (n:Nat):∀(k a:Nat) (l:List Pos),n - a≤k→a≤n→n≤l.length→Runs (blkF n a l) a n 20∧∀i,i<a→gp (blkF n a l) i=gp l i:=by
 intro k
 induction k with
 | zero =>
  intro a l h ha hn
  rw[blkF,if_neg (by omega)]
  exact ⟨Runs.none (by omega),fun i hi=>insS_out ha hn (.inl hi)⟩
 | succ k ih =>
  intro a l h ha hn
  rw[blkF]
  split
  ·rename_i hlt
   obtain ⟨i1,i2⟩:=ih (a+20) (insS a (a+20) l) (by omega) hlt (by rw[insS_len];exact hn)
   refine ⟨Runs.cons ?_ i1,fun i hi=>by rw[i2 i (by omega),insS_out (by omega) (by omega) (.inl hi)]⟩
   exact ((insS_sorts (l:=l) (show a≤a+20 by omega) (by omega)).congr fun k h1 h2=>i2 k h2).sub (Nat.le_refl _) (by omega)
  ·rename_i hlt
   exact ⟨Runs.cons ((insS_sorts ha hn).sub (Nat.le_refl _) (by omega)) (Runs.none (by omega)),fun i hi=>insS_out ha hn (.inl hi)⟩
theorem mrgF_ok (n bs:Nat) (hb:0<bs):∀(k a:Nat) (l:List Pos),n - a≤k→a≤n→n≤l.length→Runs l a n bs→Runs (mrgF n bs a l) a n (2*bs)∧∀i,i<a→gp (mrgF n bs a l) i=gp l i:=by
 intro k
 induction k with
 | zero =>
  intro a l h ha hn _
  rw[mrgF,if_neg (by omega),if_neg (by omega)]
  exact ⟨Runs.none (by omega),fun i hi=>rfl⟩
 | succ k ih =>
  intro a l h ha hn hr
  rw[mrgF]
  split
  ·rename_i hlt
   have s:=symF_ok _ l a (a+bs) (a+2*bs) (Nat.le_refl _) (by omega) (by omega) (by omega) (hr.head.sub (Nat.le_refl _) (by omega)) (hr.tail.head.sub (Nat.le_refl _) (by omega))
   have hr2:Runs (symF l a (a+bs) (a+2*bs)) (a+2*bs) n bs:=by
    have:=hr.tail.tail
    rw[show a+bs+bs=a+2*bs by omega]at this
    exact this.congr fun k hk=>s.out k (.inr hk)
   obtain ⟨i1,i2⟩:=ih (a+2*bs) _ (by omega) hlt.2 (by rw[symF_len _ _ _ _ _ (Nat.le_refl _)];exact hn) hr2
   refine ⟨Runs.cons ?_ i1,fun i hi=>by rw[i2 i (by omega),s.out i (.inl hi)]⟩
   exact (s.so.congr fun k h1 h2=>i2 k h2).sub (Nat.le_refl _) (by omega)
  ·rename_i hlt
   split
   ·rename_i hl2
    have s:=symF_ok _ l a (a+bs) n (Nat.le_refl _) (by omega) (by omega) hn (hr.head.sub (Nat.le_refl _) (by omega)) (hr.tail.head.sub (Nat.le_refl _) (by omega))
    exact ⟨Runs.cons (s.so.sub (Nat.le_refl _) (by omega)) (Runs.none (by omega)),fun i hi=>s.out i (.inl hi)⟩
   ·exact ⟨Runs.cons (hr.head.sub (Nat.le_refl _) (by omega)) (Runs.none (by omega)),fun i hi=>rfl⟩
theorem upF_ok (n:Nat):∀(k bs:Nat) (l:List Pos),n - bs≤k→0<bs→n≤l.length→Runs l 0 n bs→SortedOn (upF n bs l) 0 n:=by
 intro k
 induction k with
 | zero =>
  intro bs l h hb hn hr
  rw[upF,if_neg (by omega)]
  exact hr.head.sub (Nat.le_refl _) (by omega)
 | succ k ih =>
  intro bs l h hb hn hr
  rw[upF]
  split
  ·exact ih _ _ (by omega) (by omega) (by rw[mrgF_len _ _ _ _ _ (Nat.le_refl _)];exact hn) (mrgF_ok n bs hb _ 0 l (Nat.le_refl _) (Nat.zero_le _) hn hr).1
  ·exact hr.head.sub (Nat.le_refl _) (by omega)
theorem sortF_sorts (l:List Pos):(sortF l).Pairwise leP:=by
 have h:SortedOn (sortF l) 0 l.length:=by
  unfold sortF
  exact upF_ok _ _ _ _ (Nat.le_refl _) (by omega) (by rw[blkF_len _ _ _ _ (Nat.le_refl _)];exact Nat.le_refl _) (blkF_ok _ _ 0 l (Nat.le_refl _) (Nat.zero_le _) (Nat.le_refl _)).1
 have hl:(sortF l).length=l.length:=(sortF_perm l).length_eq
 rw[List.pairwise_iff_getElem]
 intro i j hi hj hij
 have:=h i j (Nat.zero_le _) hij (by omega)
 unfold gp at this
 rw[List.getD_eq_getElem?_getD,List.getD_eq_getElem?_getD,List.getElem?_eq_getElem hi,List.getElem?_eq_getElem hj]at this
 exact this
end NA
namespace NA
theorem add64_x (x y c:Int) (hx:0≤x) (hy:0≤y) (hc0:0≤c) (hc:c≤1):XCall Tryz.prog 130 [] [U x,U y,U c] (.t [.c (.v (.x (.int .u64 ((x+y+c) % 18446744073709551616)))),.c (.v (.x (.int .u64 ((x+y+c) / 18446744073709551616))))]) []:=by
 intro own0 w ρ vs hm ha
 match vs,ha with
 | [a,b,d],⟨h1,h2,h3,_⟩ =>
  obtain ⟨rfl,_⟩:=rep_x h1
  obtain ⟨rfl,_⟩:=rep_x h2
  obtain ⟨rfl,_⟩:=rep_x h3
  refine ⟨.tuple #[.int .u64 ((x+y+c) % 18446744073709551616),.int .u64 ((x+y+c) / 18446744073709551616)],ρ,?_,Sub.refl _,⟨[.int .u64 ((x+y+c) % 18446744073709551616),.int .u64 ((x+y+c) / 18446744073709551616)],rfl,?_,?_,trivial⟩,hm⟩
  ·show (callFunc 130 #[.int .u64 x,.int .u64 y,.int .u64 c]).run Tryz.prog w=_
   rw[run_callFunc_extern Tryz.func130 (by kernel_rfl) (by kernel_rfl) (by kernel_rfl) (e:=add64Entry) (by kernel_rfl),run_add64 x y c hx hy hc0 hc]
   rfl
  ·exact rep_x_mk rfl
  ·exact rep_x_mk rfl
end NA
namespace NA
abbrev SI (l:List Int):D:=.e (.c (.v (.s 1 (l.map fun n=>[V.x (.int .i64 n)]))))
def sumT (l:List Int) (i:Nat):Int:=(l.take i).foldl (·+·) 0
theorem sumT_succ (l:List Int) (i:Nat) (h:i<l.length):sumT l (i+1)=sumT l i+l.getD i 0:=by
 rw[sumT,sumT,List.take_add_one,List.foldl_append,List.getD_eq_getElem?_getD,List.getElem?_eq_getElem h]
 rfl
theorem shr63 (x:Int):x.fdiv (2 ^ (min (Int.toNat 63) IntKind.i64.bits))=x / 9223372036854775808:=by
 have:(2:Int) ^ (min (Int.toNat 63) IntKind.i64.bits)=9223372036854775808:=by decide
 rw[this,Int.fdiv_eq_ediv_of_nonneg _ (by omega)]
theorem shr63b (x:Int):x.fdiv (2 ^ (min 63 IntKind.i64.bits))=x / 9223372036854775808:=shr63 x
theorem wrapI (x:Int) (h0:0≤x) (h1:x≤18446744073709551615):IntKind.i64.wrap x=if x<9223372036854775808 then x else x - 18446744073709551616:=by
 simp only[IntKind.wrap,IntKind.bits,IntKind.signed]
 simp
 split<;>omega
open Classical in
noncomputable def sumS (l:List Int):Int×Bool:=if (∀j,j<l.length→okN (l.getD j 0))∧okN (sumT l l.length) then (sumT l l.length,true) else (0,false)
def qAS22:=PLift.up (An @add64_x @right_c)
def qAS21:=PLift.up (An @getD_rI (An @wrapU (An @shr63 @shr63b)))
theorem sum53_c (l:List Int) (hl:l.length≤1000) (r:Int×Bool) (hr:sumS l=r):ACall Tryz.prog 75 [] [SI l] (numD r) []:=by
 have hright:True:=trivial
 have hn2:True:=trivial
 have h00:sumT l 0=0:=rfl
 refine Ac Tryz.func75 ?_
 refine Wk (An @hn2 qAS21.1) (An @hright qAS22.1) ?_
 refine AWp.loop (fun i:Nat=>mkSt [(4,U (sumT l i / 18446744073709551616 % 18446744073709551616)),(5,U (sumT l i % 18446744073709551616)),(10,SI l),(11,I l.length),(12,I i)] [] 0)
  (fun i=>i≤l.length∧(∀j,j<i→okN (l.getD j 0))∧-(4611686018427387904*(i:Int))≤sumT l i∧sumT l i≤4611686018427387904*i) (fun i=>l.length - i) 0 ⟨Nat.zero_le _,(fun j hj=>absurd hj (Nat.not_lt_zero _)),(by show -(4611686018427387904*((0:Nat):Int))≤0;decide),(by show (0:Int)≤4611686018427387904*((0:Nat):Int);decide)⟩ (by refine Le.of (τ:=[]) (ν:=[]) (by kernel_rfl) ?_ ?_<;>((refine Lv (An @hn2 qAS21.1) fun eE=>?_;first|exact Lw (@Box.out _ eE) trivial|refine Lw (@Box.out _ eE) ?_);try (rw[h00];exact ⟨rfl,rfl⟩))) fun i hi=>?_
 obtain ⟨hi,hj,hb1,hb2⟩:=hi
 refine Wk (An @hn2 qAS21.1) (An @hright qAS22.1) ?_
 refine Cc ?_ ?_<;>intro hc<;>(try simp only[Za,ne_eq]at hc)
 ·have hil:i<l.length:=by omega
  have hs:=sumT_succ l i hil
  obtain ⟨n,hn⟩:∃n,l.getD i 0=n:=⟨_,rfl⟩
  have hright:=right_c (l.getD i 0)
  by_cases hok:okN (l.getD i 0)
  ·rw[rightN_spec.2 hok]at hright
   have hok2:=hok
   unfold okN at hok2
   refine Wk (An @hn2 qAS21.1) (An @hright qAS22.1) ?_
   refine Cc ?_ ?_<;>intro hc<;>(try simp only[Za,ne_eq]at hc)
   ·contradiction
   ·refine Wk (An @hn2 qAS21.1) (An @hright qAS22.1) ?_
    refine Zb (τ:=ren []) (ν:=[]) (i+1) ⟨by omega,(fun j h=>by
     rcases (show j<i∨j=i by omega) with h|rfl
     ·exact hj j h
     ·exact hok),by omega,by omega⟩ (by omega) ?_
    refine Le.of (τ:=[]) (by kernel_rfl) ?_ ?_<;>(refine Lv (An @hn2 qAS21.1) fun eE=>?_;first|exact Lw (@Box.out _ eE) trivial|refine Lw (@Box.out _ eE) ?_)
    rw[hs]
    clear hj hr hs hb1 hb2 hn
    generalize sumT l i=T at *
    generalize l.getD i 0=k at *
    have hT:T=18446744073709551616*(T / 18446744073709551616)+T % 18446744073709551616:=(Int.mul_ediv_add_emod _ _).symm
    have hlo0:0≤T % 18446744073709551616:=Int.emod_nonneg _ (by decide)
    have hlo1:T % 18446744073709551616<18446744073709551616:=Int.emod_lt_of_pos _ (by decide)
    generalize T / 18446744073709551616=q at *
    generalize T % 18446744073709551616=lo at *
    subst hT
    by_cases hk:k<0
    ·have a1:k / 9223372036854775808 % 18446744073709551616=18446744073709551615:=by omega
     have a2:k % 18446744073709551616=k+18446744073709551616:=by omega
     rw[a1,a2]
     by_cases hc:lo+k<0
     ·have b1:(18446744073709551616*q+lo+k) / 18446744073709551616=q - 1:=by omega
      have b2:(lo+(k+18446744073709551616)+0) / 18446744073709551616=0:=by omega
      rw[b1,b2];constructor<;>omega
     ·have b1:(18446744073709551616*q+lo+k) / 18446744073709551616=q:=by omega
      have b2:(lo+(k+18446744073709551616)+0) / 18446744073709551616=1:=by omega
      rw[b1,b2];constructor<;>omega
    ·have a1:k / 9223372036854775808 % 18446744073709551616=0:=by omega
     have a2:k % 18446744073709551616=k:=by omega
     rw[a1,a2]
     by_cases hc:lo+k<18446744073709551616
     ·have b1:(18446744073709551616*q+lo+k) / 18446744073709551616=q:=by omega
      have b2:(lo+k+0) / 18446744073709551616=0:=by omega
      rw[b1,b2];constructor<;>omega
     ·have b1:(18446744073709551616*q+lo+k) / 18446744073709551616=q+1:=by omega
      have b2:(lo+k+0) / 18446744073709551616=1:=by omega
      rw[b1,b2];constructor<;>omega
  ·rw[rightN_no.2 hok]at hright
   have e:r=(0,false):=by rw[←hr,sumS,if_neg];exact fun h=>hok (h.1 i hil)
   subst e
   refine Wk (An @hn2 qAS21.1) (An @hright qAS22.1) ?_
   refine Cc ?_ ?_<;>intro hc<;>(try simp only[Za,ne_eq]at hc)
   ·refine Wk (An @hn2 qAS21.1) (An @hright qAS22.1) ?_
    first|exact Fn @Tryz.results75 (An @hn2 qAS21.1) trivial|refine Fn @Tryz.results75 (An @hn2 qAS21.1) ?_
   ·contradiction
 ·obtain rfl:i=l.length:=by omega
  have hlo:=wrapI (sumT l l.length % 18446744073709551616) (by omega) (by omega)
  obtain ⟨m,hn2⟩:∃m,IntKind.i64.wrap (sumT l l.length % 18446744073709551616)=m:=⟨_,rfl⟩
  rw[hn2]at hlo
  have hall:∀j,j<l.length→okN (l.getD j 0):=hj
  refine Wk (An @hn2 qAS21.1) (An @hright qAS22.1) ?_
  refine Cc ?_ ?_<;>intro hc<;>(try simp only[Za,ne_eq]at hc)
  ·have e:r=(0,false):=by
    rw[←hr,sumS,if_neg]
    rintro ⟨_,h⟩
    have h':=h
    unfold okN at h'
    have hm:m=sumT l l.length:=by split at hlo<;>omega
    rcases hc with h1|h1
    ·apply h1;rw[hm];omega
    ·rw[hm,rightN_spec.2 h]at h1;cases h1
   subst e
   refine Wk (An @hn2 qAS21.1) (An @hright qAS22.1) ?_
   first|exact Fn @Tryz.results75 (An @hn2 qAS21.1) trivial|refine Fn @Tryz.results75 (An @hn2 qAS21.1) ?_
  ·obtain ⟨h1,h2⟩:=hc
   have hm:m=sumT l l.length:=by split at hlo<;>omega
   have hok:=rightN_spec.1 h2
   have e:r=(m,true):=by rw[←hr,sumS,if_pos ⟨hall,by rw[←hm];exact hok⟩,hm]
   subst e
   refine Wk (An @hn2 qAS21.1) (An @hright qAS22.1) ?_
   first|exact Fn @Tryz.results75 (An @hn2 qAS21.1) trivial|refine Fn @Tryz.results75 (An @hn2 qAS21.1) ?_
end NA
namespace NA
theorem cmpP_congr {a b c:Pos} (h1:a.acc=b.acc) (h2:a.sym=b.sym):cmpP a c=cmpP b c:=by unfold cmpP;rw[h1,h2]
def nm (a s:ByteArray) (x:Pos):Bool:=(x.acc.data.toList == a.data.toList) && (x.sym.data.toList == s.data.toList)
theorem nm_iff {a s:ByteArray} {x:Pos}:nm a s x=true↔x.acc=a∧x.sym=s:=by
 rw[nm,Bool.and_eq_true,beq_iff_eq,beq_iff_eq]
 exact ⟨fun h=>⟨ba_eq h.1,ba_eq h.2⟩,fun h=>by rw[h.1,h.2];exact ⟨rfl,rfl⟩⟩
theorem nm_self (x:Pos):nm x.acc x.sym x=true:=nm_iff.2 ⟨rfl,rfl⟩
theorem nm_cmp {x y:Pos}:nm x.acc x.sym y=true↔cmpP x y=0:=by
 rw[nm_iff,cmpP_eq]
 exact ⟨fun h=>⟨h.1.symm,h.2.symm⟩,fun h=>⟨h.1.symm,h.2.symm⟩⟩
theorem foldl_sum:∀(l:List Int) (a:Int),l.foldl (·+·) a=a+l.sum
 | [],a=>by simp
 | x::l,a=>by rw[List.foldl_cons,foldl_sum l,List.sum_cons];omega
theorem sumS_yes {l:List Int} (h1:∀x,x∈l→okN x) (h2:okN l.sum):sumS l=(l.sum,true):=by
 have e:sumT l l.length=l.sum:=by rw[sumT,List.take_length,foldl_sum];omega
 rw[sumS,e,if_pos]
 exact ⟨fun j hj=>h1 _ (by rw[List.getD_eq_getElem?_getD,List.getElem?_eq_getElem hj];exact List.getElem_mem hj),h2⟩
theorem sumS_no {l:List Int} (h:¬((∀x,x∈l→okN x)∧okN l.sum)):sumS l=(0,false):=by
 have e:sumT l l.length=l.sum:=by rw[sumT,List.take_length,foldl_sum];omega
 rw[sumS,e,if_neg]
 rintro ⟨h1,h2⟩
 refine h ⟨fun x hx=>?_,h2⟩
 obtain ⟨j,hj,rfl⟩:=List.getElem_of_mem hx
 have:=h1 j hj
 rw[List.getD_eq_getElem?_getD,List.getElem?_eq_getElem hj]at this
 exact this
theorem sum_perm {l m:List Int} (h:l.Perm m):l.sum=m.sum:=by
 induction h with
 | nil=>rfl
 | cons x _ ih=>rw[List.sum_cons,List.sum_cons,ih]
 | swap x y l=>rw[List.sum_cons,List.sum_cons,List.sum_cons,List.sum_cons];omega
 | trans _ _ ih1 ih2=>rw[ih1,ih2]
theorem sumS_perm {l m:List Int} (h:l.Perm m):sumS l=sumS m:=by
 by_cases hl:(∀x,x∈l→okN x)∧okN l.sum
 ·rw[sumS_yes hl.1 hl.2,sumS_yes (fun x hx=>hl.1 x (h.mem_iff.2 hx)) (by rw[←sum_perm h];exact hl.2),sum_perm h]
 ·rw[sumS_no hl,sumS_no]
  rintro ⟨h1,h2⟩
  exact hl ⟨fun x hx=>h1 x (h.mem_iff.1 hx),by rw[sum_perm h];exact h2⟩
def anyO (l:List Pos):Bool:=l.any (fun x=>x.over)
noncomputable def togP (a s:ByteArray) (l:List Pos):Pos :=
 if anyO l=false∧(sumS (l.map (fun x=>x.qty))).2=true∧(sumS (l.map (fun x=>x.value))).2=true then ⟨a,s,(sumS (l.map (fun x=>x.qty))).1,(sumS (l.map (fun x=>x.value))).1,false⟩ else ⟨a,s,0,0,true⟩
theorem togP_acc (a s:ByteArray) (l:List Pos):(togP a s l).acc=a:=by unfold togP;split<;>rfl
theorem togP_sym (a s:ByteArray) (l:List Pos):(togP a s l).sym=s:=by unfold togP;split<;>rfl
theorem anyO_perm {l m:List Pos} (h:l.Perm m):anyO l=anyO m:=by
 unfold anyO
 rw[Bool.eq_iff_iff,List.any_eq_true,List.any_eq_true]
 exact ⟨fun ⟨x,h1,h2⟩=>⟨x,h.mem_iff.1 h1,h2⟩,fun ⟨x,h1,h2⟩=>⟨x,h.mem_iff.2 h1,h2⟩⟩
theorem togP_perm {l m:List Pos} (a s:ByteArray) (h:l.Perm m):togP a s l=togP a s m:=by
 unfold togP
 rw[anyO_perm h,sumS_perm (h.map fun x=>x.qty),sumS_perm (h.map fun x=>x.value)]
theorem togP_over {a s:ByteArray} {l:List Pos} (h:anyO l=true):togP a s l=⟨a,s,0,0,true⟩:=by
 unfold togP;rw[if_neg];rintro ⟨h1,_⟩;rw[h]at h1;cases h1
def goodP (p:Pos):Prop:=okN p.qty∧okN p.value∧(p.over=true→p.qty=0∧p.value=0)
theorem okN0:okN 0:=by unfold okN;omega
theorem sumS_ok (l:List Int):okN (sumS l).1:=by
 by_cases hl:(∀x,x∈l→okN x)∧okN l.sum
 ·rw[sumS_yes hl.1 hl.2];exact hl.2
 ·rw[sumS_no hl];exact okN0
theorem togP_good (a s:ByteArray) (l:List Pos):goodP (togP a s l):=by
 unfold togP
 split
 ·exact ⟨sumS_ok _,sumS_ok _,fun h=>by cases h⟩
 ·exact ⟨okN0,okN0,fun _=>⟨rfl,rfl⟩⟩
theorem sumS_one {n:Int} (h:okN n):sumS [n]=(n,true):=by
 rw[sumS_yes (fun x hx=>by rw[List.mem_singleton.1 hx];exact h) (by rw[List.sum_cons,List.sum_nil,Int.add_zero];exact h),List.sum_cons,List.sum_nil,Int.add_zero]
theorem togP_one {p:Pos} (h:goodP p):togP p.acc p.sym [p]=p:=by
 obtain ⟨a,s,q,v,o⟩:=p
 obtain ⟨h1,h2,h3⟩:=h
 cases o with
 | true =>
  obtain ⟨e1,e2⟩:=h3 rfl
  dsimp only at e1 e2
  rw[togP_over rfl,e1,e2]
 | false =>
  unfold togP
  simp only[List.map_cons,List.map_nil,sumS_one h1,sumS_one h2]
  rw[if_pos ⟨rfl,trivial,trivial⟩]
structure IsAll (F out:List Pos):Prop where
 so:out.Pairwise fun x y=>cmpP x y<0
 val:∀p,p∈out→p=togP p.acc p.sym (F.filter (nm p.acc p.sym))
 cov:∀x,x∈F→∃p,p∈out∧nm x.acc x.sym p=true
 inc:∀p,p∈out→∃x,x∈F∧nm p.acc p.sym x=true
theorem cmpP_irr {x y:Pos} (h1:cmpP x y<0) (h2:cmpP y x<0):False:=by
 have:=Yp x y;omega
theorem sorted_ext:∀(l m:List Pos),l.Pairwise (fun x y=>cmpP x y<0)→m.Pairwise (fun x y=>cmpP x y<0)→(∀x,x∈l↔x∈m)→l=m
 | [],[],_,_,_=>rfl
 | [],b::m,_,_,h=>absurd ((h b).2 (List.mem_cons_self ..)) (List.not_mem_nil)
 | a::l,[],_,_,h=>absurd ((h a).1 (List.mem_cons_self ..)) (List.not_mem_nil)
 | a::l,b::m,h1,h2,h=>by
  rw[List.pairwise_cons]at h1 h2
  have e:a=b:=by
   rcases List.mem_cons.1 ((h a).1 (List.mem_cons_self ..)) with e|e
   ·exact e
   ·rcases List.mem_cons.1 ((h b).2 (List.mem_cons_self ..)) with e2|e2
    ·exact e2.symm
    ·exact (cmpP_irr (h1.1 b e2) (h2.1 a e)).elim
  subst e
  have irr:¬cmpP a a<0:=fun hh=>cmpP_irr hh hh
  rw[sorted_ext l m h1.2 h2.2 fun x=>⟨fun hx=>by
   rcases List.mem_cons.1 ((h x).1 (List.mem_cons_of_mem _ hx)) with e|e
   ·subst e;exact absurd (h1.1 x hx) irr
   ·exact e,fun hx=>by
   rcases List.mem_cons.1 ((h x).2 (List.mem_cons_of_mem _ hx)) with e|e
   ·subst e;exact absurd (h2.1 x hx) irr
   ·exact e⟩]
theorem IsAll.mem {F G out res:List Pos} (h1:IsAll F out) (h2:IsAll G res) (hv:∀a s,togP a s (F.filter (nm a s))=togP a s (G.filter (nm a s))) (hm:∀x,x∈F→∃y,y∈G∧nm x.acc x.sym y=true):∀x,x∈out→x∈res:=fun x hx=>by
 obtain ⟨y,hy,e⟩:=h1.inc x hx
 obtain ⟨z,hz,e2⟩:=hm y hy
 obtain ⟨p,hp,e3⟩:=h2.cov z hz
 obtain ⟨a1,a2⟩:=nm_iff.1 e
 obtain ⟨b1,b2⟩:=nm_iff.1 e2
 obtain ⟨c1,c2⟩:=nm_iff.1 e3
 have:p=x:=by
  rw[h2.val p hp,h1.val x hx,c1,c2,b1,b2,a1,a2]
  exact (hv _ _).symm
 rw[←this];exact hp
theorem IsAll.uniq {F G out res:List Pos} (h1:IsAll F out) (h2:IsAll G res) (hv:∀a s,togP a s (F.filter (nm a s))=togP a s (G.filter (nm a s))) (hm:∀x,x∈F→∃y,y∈G∧nm x.acc x.sym y=true) (hm2:∀x,x∈G→∃y,y∈F∧nm x.acc x.sym y=true):out=res :=
 sorted_ext _ _ h1.so h2.so fun _=>⟨h1.mem h2 hv hm _,h2.mem h1 (fun a s=>(hv a s).symm) hm2 _⟩
theorem IsAll.perm {F G out:List Pos} (h:IsAll F out) (hp:F.Perm G):IsAll G out :=
 ⟨h.so,fun p hp'=>by rw[←togP_perm _ _ (hp.filter _)];exact h.val p hp',fun x hx=>h.cov x (hp.mem_iff.2 hx),fun p hp'=>by
  obtain ⟨x,h1,h2⟩:=h.inc p hp'
  exact ⟨x,hp.mem_iff.1 h1,h2⟩⟩
theorem IsAll.det {F G out res:List Pos} (h1:IsAll F out) (h2:IsAll G res) (hp:F.Perm G):out=res :=
 h1.uniq h2 (fun a s=>togP_perm _ _ (hp.filter _)) (fun x hx=>⟨x,hp.mem_iff.1 hx,nm_self x⟩) (fun x hx=>⟨x,hp.mem_iff.2 hx,nm_self x⟩)
noncomputable def grpF:List Pos→List Pos
 | []=>[]
 | x::l=>togP x.acc x.sym (x::l.takeWhile (nm x.acc x.sym))::grpF (l.dropWhile (nm x.acc x.sym))
termination_by l=>l.length
decreasing_by
 have:=(List.dropWhile_sublist (nm x.acc x.sym) (l:=l)).length_le
 simp only[List.length_cons];omega
theorem cmpP_lt_le {x y z:Pos} (h1:cmpP x y<0) (h2:leP y z):cmpP x z<0:=by
 have:=Yp z x
 by_cases h:cmpP y z=0
 ·have e:=Yh (lt_le h1) h2
  unfold leP at e
  by_cases h0:cmpP x z=0
  ·obtain ⟨a,b⟩:=cmpP_eq.1 h
   obtain ⟨c,d⟩:=cmpP_eq.1 h0
   have:cmpP x y=0:=cmpP_eq.2 ⟨by rw[c,a],by rw[d,b]⟩
   omega
  ·omega
 ·unfold leP at h2
  exact cmpP_trans h1 (by omega)
theorem drop_gt:∀(x:Pos) (l:List Pos),(x::l).Pairwise leP→∀y,y∈l.dropWhile (nm x.acc x.sym)→cmpP x y<0
 | x,[],_,y,hy=>absurd hy (by simp)
 | x,z::l,h,y,hy=>by
  rw[List.pairwise_cons,List.pairwise_cons]at h
  rw[List.dropWhile_cons]at hy
  split at hy
  ·exact drop_gt x l (List.pairwise_cons.2 ⟨fun w hw=>h.1 w (List.mem_cons_of_mem _ hw),h.2.2⟩) y hy
  ·rename_i hne
   have hxz:cmpP x z<0:=by
    have h1:=h.1 z (List.mem_cons_self ..)
    unfold leP at h1
    have h2:cmpP x z≠0:=fun h0=>hne (nm_cmp.2 h0)
    omega
   rcases List.mem_cons.1 hy with rfl|hy
   ·exact hxz
   ·exact cmpP_lt_le hxz (h.2.1 y hy)
theorem filter_none {a s:ByteArray} {l:List Pos} (h:∀y,y∈l→nm a s y=false):l.filter (nm a s)=[]:=by
 rw[List.filter_eq_nil_iff];intro y hy;rw[h y hy];decide
theorem mem_takeW {f:Pos→Bool}:∀ {l:List Pos} {y:Pos},y∈l.takeWhile f→f y=true
 | [],y,h=>absurd h (by simp)
 | x::l,y,h=>by
  rw[List.takeWhile_cons]at h
  split at h
  ·rename_i hx
   rcases List.mem_cons.1 h with rfl|h
   ·exact hx
   ·exact mem_takeW h
  ·exact absurd h (by simp)
theorem grpF_all:∀(n:Nat) (l:List Pos),l.length≤n→l.Pairwise leP→IsAll l (grpF l):=by
 intro n
 induction n with
 | zero =>
  intro l hl _
  obtain rfl:l=[]:=List.eq_nil_of_length_eq_zero (by omega)
  rw[grpF]
  exact ⟨.nil,fun p hp=>absurd hp (by simp),fun x hx=>absurd hx (by simp),fun p hp=>absurd hp (by simp)⟩
 | succ n ih =>
  intro l hl hs
  cases l with
  | nil=>rw[grpF];exact ⟨.nil,fun p hp=>absurd hp (by simp),fun x hx=>absurd hx (by simp),fun p hp=>absurd hp (by simp)⟩
  | cons x l =>
   rw[grpF]
   have hgt:=drop_gt x l hs
   have hsplit:l=l.takeWhile (nm x.acc x.sym)++l.dropWhile (nm x.acc x.sym):=(List.takeWhile_append_dropWhile ..).symm
   have htw:∀y,y∈l.takeWhile (nm x.acc x.sym)→nm x.acc x.sym y=true:=fun y hy=>mem_takeW hy
   have hlen:=(List.dropWhile_sublist (nm x.acc x.sym) (l:=l)).length_le
   have hso:(l.dropWhile (nm x.acc x.sym)).Pairwise leP:=List.Pairwise.sublist (List.dropWhile_sublist _) (List.pairwise_cons.1 hs).2
   simp only[List.length_cons]at hl
   have ia:=ih (l.dropWhile (nm x.acc x.sym)) (by omega) hso
   generalize l.takeWhile (nm x.acc x.sym)=T at *
   generalize l.dropWhile (nm x.acc x.sym)=R at *
   subst hsplit
   have hout:∀p,p∈grpF R→cmpP x p<0:=fun p hp=>by
    obtain ⟨y,hy,e⟩:=ia.inc p hp
    have h1:=hgt y hy
    obtain ⟨a,b⟩:=nm_iff.1 e
    rw[Yp]at h1 ⊢
    rw[cmpP_congr (a:=p) (b:=y) a.symm b.symm]
    exact h1
   have fx:(x::(T++R)).filter (nm x.acc x.sym)=x::T:=by
    rw[List.filter_cons,if_pos (nm_self x),List.filter_append,List.filter_eq_self.2 htw,filter_none,List.append_nil]
    intro y hy
    cases e:nm x.acc x.sym y with
    | false=>rfl
    | true=>have:=hgt y hy;rw[nm_cmp.1 e]at this;omega
   have fp:∀p,p∈grpF R→(x::(T++R)).filter (nm p.acc p.sym)=R.filter (nm p.acc p.sym):=fun p hp=>by
    have hno:∀y,y∈x::T→nm p.acc p.sym y=false:=fun y hy=>by
     cases e:nm p.acc p.sym y with
     | false=>rfl
     | true =>
      have h1:=hout p hp
      have h2:nm x.acc x.sym y=true:=by
       rcases List.mem_cons.1 hy with rfl|hy
       ·exact nm_self _
       ·exact htw y hy
      obtain ⟨a,b⟩:=nm_iff.1 e
      obtain ⟨c,d⟩:=nm_iff.1 h2
      have:cmpP x p=0:=cmpP_eq.2 ⟨by rw[←c,a],by rw[←d,b]⟩
      omega
    rw[←List.cons_append,List.filter_append,filter_none hno,List.nil_append]
   refine ⟨?_,fun p hp=>?_,fun y hy=>?_,fun p hp=>?_⟩
   ·rw[List.pairwise_cons]
    refine ⟨fun p hp=>?_,ia.so⟩
    have h1:=hout p hp
    rw[cmpP_congr (a:=togP x.acc x.sym (x::T)) (b:=x) (togP_acc ..) (togP_sym ..)]
    exact h1
   ·rcases List.mem_cons.1 hp with rfl|hp
    ·rw[togP_acc,togP_sym,fx]
    ·rw[fp p hp];exact ia.val p hp
   ·rw[←List.cons_append]at hy
    rcases List.mem_append.1 hy with hy|hy
    ·have h2:nm x.acc x.sym y=true:=by
      rcases List.mem_cons.1 hy with rfl|hy
      ·exact nm_self _
      ·exact htw y hy
     obtain ⟨c,d⟩:=nm_iff.1 h2
     exact ⟨_,List.mem_cons_self ..,nm_iff.2 ⟨by rw[togP_acc,c],by rw[togP_sym,d]⟩⟩
    ·obtain ⟨p,h1,h2⟩:=ia.cov y hy
     exact ⟨p,List.mem_cons_of_mem _ h1,h2⟩
   ·rcases List.mem_cons.1 hp with rfl|hp
    ·exact ⟨x,List.mem_cons_self ..,nm_iff.2 ⟨by rw[togP_acc],by rw[togP_sym]⟩⟩
    ·obtain ⟨y,h1,h2⟩:=ia.inc p hp
     exact ⟨y,List.mem_cons_of_mem _ (List.mem_append_right _ h1),h2⟩
noncomputable def allF (F:List Pos):List Pos:=grpF (sortF F)
theorem allF_is (F:List Pos):IsAll F (allF F):=(grpF_all _ _ (Nat.le_refl _) (sortF_sorts F)).perm (sortF_perm F)
theorem allF_perm {F G:List Pos} (h:F.Perm G):allF F=allF G:=(allF_is F).det (allF_is G) h
def stepOk (l:List Pos) (i:Nat):Prop:=(0<i→cmpP (l.getD (i - 1) default) (l.getD i default)<0)∧goodP (l.getD i default)
def rgtP (l:List Pos):Prop:=∀i,i<l.length→stepOk l i
theorem gp_el {l:List Pos} {i:Nat} (h:i<l.length):l.getD i default=l[i]:=by
 rw[List.getD_eq_getElem?_getD,List.getElem?_eq_getElem h];rfl
theorem rgtP_iff {l:List Pos}:rgtP l↔(∀p,p∈l→goodP p)∧l.Pairwise fun x y=>cmpP x y<0:=by
 constructor
 ·intro h
  refine ⟨fun p hp=>?_,?_⟩
  ·obtain ⟨i,hi,rfl⟩:=List.getElem_of_mem hp
   have:=(h i hi).2
   rw[gp_el hi]at this;exact this
  ·rw[List.pairwise_iff_getElem]
   intro i j hi hj hij
   obtain ⟨k,rfl⟩:∃k,j=i+1+k:=⟨j - i - 1,by omega⟩
   clear hij
   induction k with
   | zero =>
    have:=(h (i+1) hj).1 (by omega)
    rw[gp_el hj,gp_el (show i+1 - 1<l.length by omega)]at this
    exact this
   | succ k ih =>
    have:=(h (i+1+k+1) hj).1 (by omega)
    rw[gp_el (show i+1+k+1<l.length from hj),gp_el (show i+1+k+1 - 1<l.length by omega)]at this
    exact cmpP_trans (ih (by omega)) this
 ·rintro ⟨h1,h2⟩ i hi
  refine ⟨fun h0=>?_,by rw[gp_el hi];exact h1 _ (List.getElem_mem hi)⟩
  rw[gp_el hi,gp_el (show i - 1<l.length by omega)]
  exact List.pairwise_iff_getElem.1 h2 _ _ _ _ (by omega)
theorem filter_one {p:Pos}:∀ {out:List Pos},out.Pairwise (fun x y=>cmpP x y<0)→p∈out→out.filter (nm p.acc p.sym)=[p]
 | [],_,h=>absurd h (by simp)
 | x::l,so,h=>by
  rw[List.pairwise_cons]at so
  have key:∀y,y∈l→cmpP p y<0→nm p.acc p.sym y=false:=fun y _ hlt=>by
   cases e:nm p.acc p.sym y with
   | false=>rfl
   | true=>rw[nm_cmp.1 e]at hlt;omega
  rcases List.mem_cons.1 h with rfl|h
  ·rw[List.filter_cons,if_pos (nm_self _),filter_none fun y hy=>key y hy (so.1 y hy)]
  ·have hx:=so.1 p h
   rw[List.filter_cons,if_neg,filter_one so.2 h]
   intro e
   have:=Yp x p
   rw[nm_cmp.1 e]at this
   omega
theorem all_self {l:List Pos} (h:rgtP l):IsAll l l:=by
 obtain ⟨h1,h2⟩:=rgtP_iff.1 h
 exact ⟨h2,fun p hp=>by rw[filter_one h2 hp,togP_one (h1 p hp)],fun x hx=>⟨x,hx,nm_self x⟩,fun x hx=>⟨x,hx,nm_self x⟩⟩
theorem allF_self {l:List Pos} (h:rgtP l):allF l=l:=(allF_is l).det (all_self h) (List.Perm.refl _)
open Classical in
noncomputable def allS (ls:List (List Pos)):List Pos×Int:=if ∀l,l∈ls→rgtP l then (allF ls.flatten,0) else ([],1)
theorem allS_yes {ls:List (List Pos)} (h:∀l,l∈ls→rgtP l):allS ls=(allF ls.flatten,0):=by rw[allS,if_pos h]
theorem allS_no {ls:List (List Pos)} (h:¬ ∀l,l∈ls→rgtP l):allS ls=([],1):=by rw[allS,if_neg h]
theorem allF_len:∀(F:List Pos),(allF F).length≤F.length:=fun F=>by
 have:∀(n:Nat) (l:List Pos),l.length≤n→(grpF l).length≤l.length:=fun n=>by
  induction n with
  | zero =>
   intro l hl
   obtain rfl:l=[]:=List.eq_nil_of_length_eq_zero (by omega)
   rw[grpF];simp
  | succ n ih =>
   intro l hl
   cases l with
   | nil=>rw[grpF];simp
   | cons x l =>
    rw[grpF]
    have h1:=(List.dropWhile_sublist (nm x.acc x.sym) (l:=l)).length_le
    simp only[List.length_cons]at hl ⊢
    have:=ih (l.dropWhile (nm x.acc x.sym)) (by omega)
    omega
 have h:=this _ (sortF F) (Nat.le_refl _)
 rw[(sortF_perm F).length_eq]at h
 exact h
theorem allS_one {l:List Pos} (h:rgtP l):allS [l]=(l,0):=by
 rw[allS_yes (fun m hm=>by rw[List.mem_singleton.1 hm];exact h),List.flatten_cons,List.flatten_nil,List.append_nil,allF_self h]
end NA
end Eng
end Go.Proofs.YtgenjpingdkmgaaGreatDoor
