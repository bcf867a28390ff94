/- Contracts of functions that this seat's law calls. No condition. -/
import Derived.StillTailTactics
import Derived.Laws.Cover1
import Derived.Test.YtgenjpingdkmgaaGreatDoorG25
set_option maxRecDepth 100000
set_option linter.unusedSimpArgs false
set_option linter.unusedVariables false
open Go.Proofs.Tryz
namespace Go.Proofs.YtgenjpingdkmgaaGreatDoor
namespace Eng
namespace NA
abbrev SI (l:List Int):D:=.e (.c (.v (.s 1 (l.map fun n=>[V.x (.int .i64 n)]))))
def sumT (l:List Int) (i:Nat):Int:=(l.take i).foldl (·+·) 0
theorem sumT_succ (l:List Int) (i:Nat) (h:i<l.length):sumT l (i+1)=sumT l i+l.getD i 0:=by
 rw[sumT,sumT,List.take_add_one,List.foldl_append,List.getD_eq_getElem?_getD,List.getElem?_eq_getElem h];rfl
theorem shr63 (x:Int):x.fdiv (2 ^ (min (Int.toNat 63) IntKind.i64.bits))=x / 9223372036854775808:=by
 have:(2:Int) ^ (min (Int.toNat 63) IntKind.i64.bits)=9223372036854775808:=by decide
 rw[this,Int.fdiv_eq_ediv_of_nonneg _ (by omega)]
theorem shr63b (x:Int):x.fdiv (2 ^ (min 63 IntKind.i64.bits))=x / 9223372036854775808:=shr63 x
theorem wrapI (x:Int) (h0:0<=x) (h1:x<=18446744073709551615):IntKind.i64.wrap x=if x<9223372036854775808 then x else x - 18446744073709551616:=by
 simp only[IntKind.wrap,IntKind.bits,IntKind.signed];simp
 split<;>omega
open Classical in
noncomputable def sumS (l:List Int):Int×Bool:=if (∀j,j<l.length->okN (l.getD j 0))/\okN (sumT l l.length) then (sumT l l.length,true) else (0,false)
def qAS22:=PLift.up (An @add64_x @right_c)
def qAS21:=PLift.up (An @getD_rI (An @wrapU (An @shr63 @shr63b)))
theorem sum53_c (l:List Int) (hl:l.length<=1000) (r:Int×Bool) (hr:sumS l=r):ACall prog 75 [] [SI l] (numD r) []:=by
 have hright:True:=trivial;have hn2:True:=trivial;have h00:sumT l 0=0:=rfl;refine Ac func75 ?_;refine Wk (An @hn2 qAS21.1) (An @hright qAS22.1) ?_
 refine AWp.loop (fun i:Nat=>mkSt [(4,U (sumT l i / 18446744073709551616 % 18446744073709551616)),(5,U (sumT l i % 18446744073709551616)),(10,SI l),(11,I l.length),(12,I i)] [] 0)
  (fun i=>i<=l.length/\(∀j,j<i->okN (l.getD j 0))/\-(4611686018427387904*(i:Int))<=sumT l i/\sumT l i<=4611686018427387904*i) (fun i=>l.length - i) 0 ⟨Nat.zero_le _,(fun j hj=>absurd hj (Nat.not_lt_zero _)),(by show -(4611686018427387904*((0:Nat):Int))<=0;decide),(by show (0:Int)<=4611686018427387904*((0:Nat):Int);decide)⟩ (by refine Le.of (τ:=[]) (ν:=[]) (by kernel_rfl) ?_ ?_<;>((refine Lw (An @hn2 qAS21.1) ?_;try exact ⟨⟩);try (rw[h00];exact ⟨rfl,rfl⟩))) fun i hi=>?_
 obtain ⟨hi,hj,hb1,hb2⟩:=hi;refine Wk (An @hn2 qAS21.1) (An @hright qAS22.1) ?_;refine Cb ?_ ?_<;>intro hc<;>(try exact ⟨⟩)
 .have hil:i<l.length:=by omega
  have hs:=sumT_succ l i hil;obtain ⟨n,hn⟩:∃n,l.getD i 0=n:=⟨_,rfl⟩
  have hright:=right_c (l.getD i 0);by_cases hok:okN (l.getD i 0)
  .rw[rightN_spec.2 hok]at hright;have hok2:=hok;unfold okN at hok2;refine Wk (An @hn2 qAS21.1) (An @hright qAS22.1) ?_;refine Cb ?_ ?_<;>intro hc<;>(try exact ⟨⟩)
   .contradiction
   .refine Wk (An @hn2 qAS21.1) (An @hright qAS22.1) ?_
    refine Za (τ:=ren []) (ν:=[]) (i+1) ⟨by omega,(fun j h=>by
     rcases (show j<i\/j=i by omega) with h|rfl
     .exact hj j h
     .exact hok),by omega,by omega⟩ (by omega) ?_
    refine Le.of (τ:=[]) (by kernel_rfl) ?_ ?_<;>(refine Lw (An @hn2 qAS21.1) ?_;try exact ⟨⟩)
    rw[hs];clear hj hr hs hb1 hb2 hn;generalize sumT l i=T at *;generalize l.getD i 0=k at *;have hT:T=18446744073709551616*(T / 18446744073709551616)+T % 18446744073709551616:=(Int.mul_ediv_add_emod _ _).symm;have hlo0:0<=T % 18446744073709551616:=Int.emod_nonneg _ (by decide);have hlo1:T % 18446744073709551616<18446744073709551616:=Int.emod_lt_of_pos _ (by decide);generalize T / 18446744073709551616=q at *;generalize T % 18446744073709551616=lo at *;subst hT;by_cases hk:k<0
    .have a1:k / 9223372036854775808 % 18446744073709551616=18446744073709551615:=by omega
     have a2:k % 18446744073709551616=k+18446744073709551616:=by omega
     rw[a1,a2];by_cases hc:lo+k<0
     .have b1:(18446744073709551616*q+lo+k) / 18446744073709551616=q - 1:=by omega
      have b2:(lo+(k+18446744073709551616)+0) / 18446744073709551616=0:=by omega
      rw[b1,b2];constructor<;>omega
     .have b1:(18446744073709551616*q+lo+k) / 18446744073709551616=q:=by omega
      have b2:(lo+(k+18446744073709551616)+0) / 18446744073709551616=1:=by omega
      rw[b1,b2];constructor<;>omega
    .have a1:k / 9223372036854775808 % 18446744073709551616=0:=by omega
     have a2:k % 18446744073709551616=k:=by omega
     rw[a1,a2];by_cases hc:lo+k<18446744073709551616
     .have b1:(18446744073709551616*q+lo+k) / 18446744073709551616=q:=by omega
      have b2:(lo+k+0) / 18446744073709551616=0:=by omega
      rw[b1,b2];constructor<;>omega
     .have b1:(18446744073709551616*q+lo+k) / 18446744073709551616=q+1:=by omega
      have b2:(lo+k+0) / 18446744073709551616=1:=by omega
      rw[b1,b2];constructor<;>omega
  .rw[rightN_no.2 hok]at hright;have e:r=(0,false):=by rw[<-hr,sumS,if_neg];exact fun h=>hok (h.1 i hil)
   subst e;refine Wk (An @hn2 qAS21.1) (An @hright qAS22.1) ?_;refine Cb ?_ ?_<;>intro hc<;>(try exact ⟨⟩)
   .refine Wk (An @hn2 qAS21.1) (An @hright qAS22.1) ?_;refine Fn @results75 (An @hn2 qAS21.1) ?_;try exact ⟨⟩
   .contradiction
 .obtain rfl:i=l.length:=by omega
  have hlo:=wrapI (sumT l l.length % 18446744073709551616) (by omega) (by omega);obtain ⟨m,hn2⟩:∃m,IntKind.i64.wrap (sumT l l.length % 18446744073709551616)=m:=⟨_,rfl⟩
  rw[hn2]at hlo;have hall:∀j,j<l.length->okN (l.getD j 0):=hj;refine Wk (An @hn2 qAS21.1) (An @hright qAS22.1) ?_;refine Cb ?_ ?_<;>intro hc<;>(try exact ⟨⟩)
  .have e:r=(0,false):=by
    rw[<-hr,sumS,if_neg];rintro ⟨_,h⟩;have h':=h;unfold okN at h';have hm:m=sumT l l.length:=by split at hlo<;>omega
    rcases hc with h1|h1
    .apply h1;rw[hm];omega
    .rw[hm,rightN_spec.2 h]at h1;cases h1
   subst e;refine Wk (An @hn2 qAS21.1) (An @hright qAS22.1) ?_;refine Fn @results75 (An @hn2 qAS21.1) ?_;try exact ⟨⟩
  .obtain ⟨h1,h2⟩:=hc;have hm:m=sumT l l.length:=by split at hlo<;>omega
   have hok:=rightN_spec.1 h2;have e:r=(m,true):=by rw[<-hr,sumS,if_pos ⟨hall,by rw[<-hm];exact hok⟩,hm]
   subst e;refine Wk (An @hn2 qAS21.1) (An @hright qAS22.1) ?_;refine Fn @results75 (An @hn2 qAS21.1) ?_;try exact ⟨⟩
end NA
namespace NA
theorem cmpP_congr {a b c:Pos} (h1:a.acc=b.acc) (h2:a.sym=b.sym):cmpP a c=cmpP b c:=by unfold cmpP;rw[h1,h2]
def nm (a s:ByteArray) (x:Pos):Bool:=(x.acc.data.toList == a.data.toList) && (x.sym.data.toList == s.data.toList)
theorem nm_iff {a s:ByteArray} {x:Pos}:nm a s x=true↔x.acc=a/\x.sym=s:=by
 rw[nm,Bool.and_eq_true,beq_iff_eq,beq_iff_eq];exact ⟨fun h=>⟨ba_eq h.1,ba_eq h.2⟩,fun h=>by rw[h.1,h.2];exact ⟨rfl,rfl⟩⟩
theorem nm_self (x:Pos):nm x.acc x.sym x=true:=nm_iff.2 ⟨rfl,rfl⟩
theorem nm_cmp {x y:Pos}:nm x.acc x.sym y=true↔cmpP x y=0:=by
 rw[nm_iff,cmpP_eq];exact ⟨fun h=>⟨h.1.symm,h.2.symm⟩,fun h=>⟨h.1.symm,h.2.symm⟩⟩
theorem foldl_sum:∀(l:List Int) (a:Int),l.foldl (·+·) a=a+l.sum
 | [],a=>by simp
 | x::l,a=>by rw[List.foldl_cons,foldl_sum l,List.sum_cons];omega
theorem sumS_yes {l:List Int} (h1:∀x,x∈l->okN x) (h2:okN l.sum):sumS l=(l.sum,true):=by
 have e:sumT l l.length=l.sum:=by rw[sumT,List.take_length,foldl_sum];omega
 rw[sumS,e,if_pos];exact ⟨fun j hj=>h1 _ (by rw[List.getD_eq_getElem?_getD,List.getElem?_eq_getElem hj];exact List.getElem_mem hj),h2⟩
theorem sumS_no {l:List Int} (h:¬((∀x,x∈l->okN x)/\okN l.sum)):sumS l=(0,false):=by
 have e:sumT l l.length=l.sum:=by rw[sumT,List.take_length,foldl_sum];omega
 rw[sumS,e,if_neg];rintro ⟨h1,h2⟩;refine h ⟨fun x hx=>?_,h2⟩;obtain ⟨j,hj,rfl⟩:=List.getElem_of_mem hx;have:=h1 j hj;rw[List.getD_eq_getElem?_getD,List.getElem?_eq_getElem hj]at this;exact this
theorem sum_perm {l m:List Int} (h:l.Perm m):l.sum=m.sum:=by
 induction h with
 | nil=>rfl
 | cons x _ ih=>rw[List.sum_cons,List.sum_cons,ih]
 | swap x y l=>rw[List.sum_cons,List.sum_cons,List.sum_cons,List.sum_cons];omega
 | trans _ _ ih1 ih2=>rw[ih1,ih2]
theorem sumS_perm {l m:List Int} (h:l.Perm m):sumS l=sumS m:=by
 by_cases hl:(∀x,x∈l->okN x)/\okN l.sum
 .rw[sumS_yes hl.1 hl.2,sumS_yes (fun x hx=>hl.1 x (h.mem_iff.2 hx)) (by rw[<-sum_perm h];exact hl.2),sum_perm h]
 .rw[sumS_no hl,sumS_no];rintro ⟨h1,h2⟩;exact hl ⟨fun x hx=>h1 x (h.mem_iff.1 hx),by rw[sum_perm h];exact h2⟩
def anyO (l:List Pos):Bool:=l.any (fun x=>x.over)
noncomputable def togP (a s:ByteArray) (l:List Pos):Pos :=
 if anyO l=false/\(sumS (l.map (fun x=>x.qty))).2=true/\(sumS (l.map (fun x=>x.value))).2=true then ⟨a,s,(sumS (l.map (fun x=>x.qty))).1,(sumS (l.map (fun x=>x.value))).1,false⟩ else ⟨a,s,0,0,true⟩
theorem togP_acc (a s:ByteArray) (l:List Pos):(togP a s l).acc=a:=by unfold togP;split<;>rfl
theorem togP_sym (a s:ByteArray) (l:List Pos):(togP a s l).sym=s:=by unfold togP;split<;>rfl
theorem anyO_perm {l m:List Pos} (h:l.Perm m):anyO l=anyO m:=by
 unfold anyO;rw[Bool.eq_iff_iff,List.any_eq_true,List.any_eq_true];exact ⟨fun ⟨x,h1,h2⟩=>⟨x,h.mem_iff.1 h1,h2⟩,fun ⟨x,h1,h2⟩=>⟨x,h.mem_iff.2 h1,h2⟩⟩
theorem togP_perm {l m:List Pos} (a s:ByteArray) (h:l.Perm m):togP a s l=togP a s m:=by
 unfold togP;rw[anyO_perm h,sumS_perm (h.map fun x=>x.qty),sumS_perm (h.map fun x=>x.value)]
theorem togP_over {a s:ByteArray} {l:List Pos} (h:anyO l=true):togP a s l=⟨a,s,0,0,true⟩:=by
 unfold togP;rw[if_neg];rintro ⟨h1,_⟩;rw[h]at h1;cases h1
def goodP (p:Pos):Prop:=okN p.qty/\okN p.value/\(p.over=true->p.qty=0/\p.value=0)
theorem sumS_one {n:Int} (h:okN n):sumS [n]=(n,true):=by
 rw[sumS_yes (fun x hx=>by rw[List.mem_singleton.1 hx];exact h) (by rw[List.sum_cons,List.sum_nil,Int.add_zero];exact h),List.sum_cons,List.sum_nil,Int.add_zero]
theorem togP_one {p:Pos} (h:goodP p):togP p.acc p.sym [p]=p:=by
 obtain ⟨a,s,q,v,o⟩:=p;obtain ⟨h1,h2,h3⟩:=h
 cases o with
 | true =>
  obtain ⟨e1,e2⟩:=h3 rfl;dsimp only at e1 e2
  rw[togP_over rfl,e1,e2]
 | false =>
  unfold togP;simp only[List.map_cons,List.map_nil,sumS_one h1,sumS_one h2];rw[if_pos ⟨rfl,trivial,trivial⟩]
structure IsAll (F out:List Pos):Prop where
 so:out.Pairwise fun x y=>cmpP x y<0
 val:∀p,p∈out->p=togP p.acc p.sym (F.filter (nm p.acc p.sym))
 cov:∀x,x∈F->∃p,p∈out/\nm x.acc x.sym p=true
 inc:∀p,p∈out->∃x,x∈F/\nm p.acc p.sym x=true
theorem cmpP_irr {x y:Pos} (h1:cmpP x y<0) (h2:cmpP y x<0):False:=by
 have:=cmpP_swap x y;omega
theorem sorted_ext:∀(l m:List Pos),l.Pairwise (fun x y=>cmpP x y<0)->m.Pairwise (fun x y=>cmpP x y<0)->(∀x,x∈l↔x∈m)->l=m
 | [],[],_,_,_=>rfl
 | [],b::m,_,_,h=>absurd ((h b).2 (List.mem_cons_self ..)) (List.not_mem_nil)
 | a::l,[],_,_,h=>absurd ((h a).1 (List.mem_cons_self ..)) (List.not_mem_nil)
 | a::l,b::m,h1,h2,h=>by
  rw[List.pairwise_cons]at h1 h2
  have e:a=b:=by
   rcases List.mem_cons.1 ((h a).1 (List.mem_cons_self ..)) with e|e
   .exact e
   .rcases List.mem_cons.1 ((h b).2 (List.mem_cons_self ..)) with e2|e2
    .exact e2.symm
    .exact (cmpP_irr (h1.1 b e2) (h2.1 a e)).elim
  subst e;have irr:¬cmpP a a<0:=fun hh=>cmpP_irr hh hh
  rw[sorted_ext l m h1.2 h2.2 fun x=>⟨fun hx=>by
   rcases List.mem_cons.1 ((h x).1 (List.mem_cons_of_mem _ hx)) with e|e
   .subst e;exact absurd (h1.1 x hx) irr
   .exact e,fun hx=>by
   rcases List.mem_cons.1 ((h x).2 (List.mem_cons_of_mem _ hx)) with e|e
   .subst e;exact absurd (h2.1 x hx) irr
   .exact e⟩]
theorem IsAll.mem {F G out res:List Pos} (h1:IsAll F out) (h2:IsAll G res) (hv:∀a s,togP a s (F.filter (nm a s))=togP a s (G.filter (nm a s))) (hm:∀x,x∈F->∃y,y∈G/\nm x.acc x.sym y=true):∀x,x∈out->x∈res:=fun x hx=>by
 obtain ⟨y,hy,e⟩:=h1.inc x hx;obtain ⟨z,hz,e2⟩:=hm y hy;obtain ⟨p,hp,e3⟩:=h2.cov z hz;obtain ⟨a1,a2⟩:=nm_iff.1 e;obtain ⟨b1,b2⟩:=nm_iff.1 e2;obtain ⟨c1,c2⟩:=nm_iff.1 e3
 have:p=x:=by
  rw[h2.val p hp,h1.val x hx,c1,c2,b1,b2,a1,a2];exact (hv _ _).symm
 rw[<-this];exact hp
theorem IsAll.uniq {F G out res:List Pos} (h1:IsAll F out) (h2:IsAll G res) (hv:∀a s,togP a s (F.filter (nm a s))=togP a s (G.filter (nm a s))) (hm:∀x,x∈F->∃y,y∈G/\nm x.acc x.sym y=true) (hm2:∀x,x∈G->∃y,y∈F/\nm x.acc x.sym y=true):out=res :=
 sorted_ext _ _ h1.so h2.so fun _=>⟨h1.mem h2 hv hm _,h2.mem h1 (fun a s=>(hv a s).symm) hm2 _⟩
theorem IsAll.perm {F G out:List Pos} (h:IsAll F out) (hp:F.Perm G):IsAll G out :=
 ⟨h.so,fun p hp'=>by rw[<-togP_perm _ _ (hp.filter _)];exact h.val p hp',fun x hx=>h.cov x (hp.mem_iff.2 hx),fun p hp'=>by
  obtain ⟨x,h1,h2⟩:=h.inc p hp'
  exact ⟨x,hp.mem_iff.1 h1,h2⟩⟩
theorem IsAll.det {F G out res:List Pos} (h1:IsAll F out) (h2:IsAll G res) (hp:F.Perm G):out=res :=
 h1.uniq h2 (fun a s=>togP_perm _ _ (hp.filter _)) (fun x hx=>⟨x,hp.mem_iff.1 hx,nm_self x⟩) (fun x hx=>⟨x,hp.mem_iff.2 hx,nm_self x⟩)
noncomputable def grpF:List Pos->List Pos
 | []=>[]
 | x::l=>togP x.acc x.sym (x::l.takeWhile (nm x.acc x.sym))::grpF (l.dropWhile (nm x.acc x.sym))
termination_by l=>l.length
decreasing_by
 have:=(List.dropWhile_sublist (nm x.acc x.sym) (l:=l)).length_le;simp only[List.length_cons];omega
theorem cmpP_lt_le {x y z:Pos} (h1:cmpP x y<0) (h2:leP y z):cmpP x z<0:=by
 have:=cmpP_swap z x;by_cases h:cmpP y z=0
 .have e:=Ym (lt_le h1) h2;unfold leP at e;by_cases h0:cmpP x z=0
  .obtain ⟨a,b⟩:=cmpP_eq.1 h;obtain ⟨c,d⟩:=cmpP_eq.1 h0;have:cmpP x y=0:=cmpP_eq.2 ⟨by rw[c,a],by rw[d,b]⟩;omega
  .omega
 .unfold leP at h2;exact cmpP_trans h1 (by omega)
theorem drop_gt:∀(x:Pos) (l:List Pos),(x::l).Pairwise leP->∀y,y∈l.dropWhile (nm x.acc x.sym)->cmpP x y<0
 | x,[],_,y,hy=>absurd hy (by simp)
 | x,z::l,h,y,hy=>by
  rw[List.pairwise_cons,List.pairwise_cons]at h;rw[List.dropWhile_cons]at hy
  split at hy
  .exact drop_gt x l (List.pairwise_cons.2 ⟨fun w hw=>h.1 w (List.mem_cons_of_mem _ hw),h.2.2⟩) y hy
  .rename_i hne
   have hxz:cmpP x z<0:=by
    have h1:=h.1 z (List.mem_cons_self ..);unfold leP at h1;have h2:cmpP x z≠0:=fun h0=>hne (nm_cmp.2 h0);omega
   rcases List.mem_cons.1 hy with rfl|hy
   .exact hxz
   .exact cmpP_lt_le hxz (h.2.1 y hy)
theorem filter_none {a s:ByteArray} {l:List Pos} (h:∀y,y∈l->nm a s y=false):l.filter (nm a s)=[]:=by
 rw[List.filter_eq_nil_iff];intro y hy;rw[h y hy];decide
theorem mem_takeW {f:Pos->Bool}:∀ {l:List Pos} {y:Pos},y∈l.takeWhile f->f y=true
 | [],y,h=>absurd h (by simp)
 | x::l,y,h=>by
  rw[List.takeWhile_cons]at h
  split at h
  .rename_i hx;rcases List.mem_cons.1 h with rfl|h
   .exact hx
   .exact mem_takeW h
  .exact absurd h (by simp)
theorem grpF_all:∀(n:Nat) (l:List Pos),l.length<=n->l.Pairwise leP->IsAll l (grpF l):=by
 intro n
 induction n with
 | zero =>
  intro l hl _;obtain rfl:l=[]:=List.eq_nil_of_length_eq_zero (by omega);rw[grpF]
  exact ⟨.nil,fun p hp=>absurd hp (by simp),fun x hx=>absurd hx (by simp),fun p hp=>absurd hp (by simp)⟩
 | succ n ih =>
  intro l hl hs
  cases l with
  | nil=>rw[grpF];exact ⟨.nil,fun p hp=>absurd hp (by simp),fun x hx=>absurd hx (by simp),fun p hp=>absurd hp (by simp)⟩
  | cons x l =>
   rw[grpF];have hgt:=drop_gt x l hs;have hsplit:l=l.takeWhile (nm x.acc x.sym)++l.dropWhile (nm x.acc x.sym):=(List.takeWhile_append_dropWhile ..).symm;have htw:∀y,y∈l.takeWhile (nm x.acc x.sym)->nm x.acc x.sym y=true:=fun y hy=>mem_takeW hy;have hlen:=(List.dropWhile_sublist (nm x.acc x.sym) (l:=l)).length_le;have hso:(l.dropWhile (nm x.acc x.sym)).Pairwise leP:=List.Pairwise.sublist (List.dropWhile_sublist _) (List.pairwise_cons.1 hs).2;simp only[List.length_cons]at hl;have ia:=ih (l.dropWhile (nm x.acc x.sym)) (by omega) hso;generalize l.takeWhile (nm x.acc x.sym)=T at *;generalize l.dropWhile (nm x.acc x.sym)=R at *;subst hsplit
   have hout:∀p,p∈grpF R->cmpP x p<0:=fun p hp=>by
    obtain ⟨y,hy,e⟩:=ia.inc p hp;have h1:=hgt y hy;obtain ⟨a,b⟩:=nm_iff.1 e;rw[cmpP_swap]at h1 ⊢;rw[cmpP_congr (a:=p) (b:=y) a.symm b.symm];exact h1
   have fx:(x::(T++R)).filter (nm x.acc x.sym)=x::T:=by
    rw[List.filter_cons,if_pos (nm_self x),List.filter_append,List.filter_eq_self.2 htw,filter_none,List.append_nil];intro y hy
    cases e:nm x.acc x.sym y with
    | false=>rfl
    | true=>have:=hgt y hy;rw[nm_cmp.1 e]at this;omega
   have fp:∀p,p∈grpF R->(x::(T++R)).filter (nm p.acc p.sym)=R.filter (nm p.acc p.sym):=fun p hp=>by
    have hno:∀y,y∈x::T->nm p.acc p.sym y=false:=fun y hy=>by
     cases e:nm p.acc p.sym y with
     | false=>rfl
     | true =>
      have h1:=hout p hp
      have h2:nm x.acc x.sym y=true:=by
       rcases List.mem_cons.1 hy with rfl|hy
       .exact nm_self _
       .exact htw y hy
      obtain ⟨a,b⟩:=nm_iff.1 e;obtain ⟨c,d⟩:=nm_iff.1 h2;have:cmpP x p=0:=cmpP_eq.2 ⟨by rw[<-c,a],by rw[<-d,b]⟩;omega
    rw[<-List.cons_append,List.filter_append,filter_none hno,List.nil_append]
   refine ⟨?_,fun p hp=>?_,fun y hy=>?_,fun p hp=>?_⟩
   .rw[List.pairwise_cons];refine ⟨fun p hp=>?_,ia.so⟩;have h1:=hout p hp;rw[cmpP_congr (a:=togP x.acc x.sym (x::T)) (b:=x) (togP_acc ..) (togP_sym ..)];exact h1
   .rcases List.mem_cons.1 hp with rfl|hp
    .rw[togP_acc,togP_sym,fx]
    .rw[fp p hp];exact ia.val p hp
   .rw[<-List.cons_append]at hy;rcases List.mem_append.1 hy with hy|hy
    .have h2:nm x.acc x.sym y=true:=by
      rcases List.mem_cons.1 hy with rfl|hy
      .exact nm_self _
      .exact htw y hy
     obtain ⟨c,d⟩:=nm_iff.1 h2;exact ⟨_,List.mem_cons_self ..,nm_iff.2 ⟨by rw[togP_acc,c],by rw[togP_sym,d]⟩⟩
    .obtain ⟨p,h1,h2⟩:=ia.cov y hy;exact ⟨p,List.mem_cons_of_mem _ h1,h2⟩
   .rcases List.mem_cons.1 hp with rfl|hp
    .exact ⟨x,List.mem_cons_self ..,nm_iff.2 ⟨by rw[togP_acc],by rw[togP_sym]⟩⟩
    .obtain ⟨y,h1,h2⟩:=ia.inc p hp;exact ⟨y,List.mem_cons_of_mem _ (List.mem_append_right _ h1),h2⟩
noncomputable def allF (F:List Pos):List Pos:=grpF (sortF F)
theorem allF_is (F:List Pos):IsAll F (allF F):=(grpF_all _ _ (Nat.le_refl _) (sortF_sorts F)).perm (sortF_perm F)
def stepOk (l:List Pos) (i:Nat):Prop:=(0<i->cmpP (l.getD (i - 1) default) (l.getD i default)<0)/\goodP (l.getD i default)
def rgtP (l:List Pos):Prop:=∀i,i<l.length->stepOk l i
theorem gp_el {l:List Pos} {i:Nat} (h:i<l.length):l.getD i default=l[i]:=by
 rw[List.getD_eq_getElem?_getD,List.getElem?_eq_getElem h];rfl
theorem rgtP_iff {l:List Pos}:rgtP l↔(∀p,p∈l->goodP p)/\l.Pairwise fun x y=>cmpP x y<0:=by
 constructor
 .intro h;refine ⟨fun p hp=>?_,?_⟩
  .obtain ⟨i,hi,rfl⟩:=List.getElem_of_mem hp;have:=(h i hi).2;rw[gp_el hi]at this;exact this
  .rw[List.pairwise_iff_getElem];intro i j hi hj hij;obtain ⟨k,rfl⟩:∃k,j=i+1+k:=⟨j - i - 1,by omega⟩
   clear hij
   induction k with
   | zero =>
    have:=(h (i+1) hj).1 (by omega);rw[gp_el hj,gp_el (show i+1 - 1<l.length by omega)]at this
    exact this
   | succ k ih =>
    have:=(h (i+1+k+1) hj).1 (by omega);rw[gp_el (show i+1+k+1<l.length from hj),gp_el (show i+1+k+1 - 1<l.length by omega)]at this;exact cmpP_trans (ih (by omega)) this
 .rintro ⟨h1,h2⟩ i hi;refine ⟨fun h0=>?_,by rw[gp_el hi];exact h1 _ (List.getElem_mem hi)⟩;rw[gp_el hi,gp_el (show i - 1<l.length by omega)];exact List.pairwise_iff_getElem.1 h2 _ _ _ _ (by omega)
theorem filter_one {p:Pos}:∀ {out:List Pos},out.Pairwise (fun x y=>cmpP x y<0)->p∈out->out.filter (nm p.acc p.sym)=[p]
 | [],_,h=>absurd h (by simp)
 | x::l,so,h=>by
  rw[List.pairwise_cons]at so
  have key:∀y,y∈l->cmpP p y<0->nm p.acc p.sym y=false:=fun y _ hlt=>by
   cases e:nm p.acc p.sym y with
   | false=>rfl
   | true=>rw[nm_cmp.1 e]at hlt;omega
  rcases List.mem_cons.1 h with rfl|h
  .rw[List.filter_cons,if_pos (nm_self _),filter_none fun y hy=>key y hy (so.1 y hy)]
  .have hx:=so.1 p h;rw[List.filter_cons,if_neg,filter_one so.2 h];intro e;have:=cmpP_swap x p;rw[nm_cmp.1 e]at this;omega
theorem all_self {l:List Pos} (h:rgtP l):IsAll l l:=by
 obtain ⟨h1,h2⟩:=rgtP_iff.1 h;exact ⟨h2,fun p hp=>by rw[filter_one h2 hp,togP_one (h1 p hp)],fun x hx=>⟨x,hx,nm_self x⟩,fun x hx=>⟨x,hx,nm_self x⟩⟩
theorem allF_self {l:List Pos} (h:rgtP l):allF l=l:=(allF_is l).det (all_self h) (List.Perm.refl _)
open Classical in
noncomputable def allS (ls:List (List Pos)):List Pos×Int:=if ∀l,l∈ls->rgtP l then (allF ls.flatten,0) else ([],1)
theorem allS_yes {ls:List (List Pos)} (h:∀l,l∈ls->rgtP l):allS ls=(allF ls.flatten,0):=by rw[allS,if_pos h]
theorem allS_no {ls:List (List Pos)} (h:¬ ∀l,l∈ls->rgtP l):allS ls=([],1):=by rw[allS,if_neg h]
theorem allS_one {l:List Pos} (h:rgtP l):allS [l]=(l,0):=by
 rw[allS_yes (fun m hm=>by rw[List.mem_singleton.1 hm];exact h),List.flatten_cons,List.flatten_nil,List.append_nil,allF_self h]
end NA
namespace NA
abbrev pC (x:Pos):List C:=[.v (.x (.string x.acc)),.v (.x (.string x.sym)),.v (.x (.int .i64 x.qty)),.v (.x (.int .i64 x.value)),.v (.x (.bool x.over))]
abbrev iR (l:List Int):List (List V):=l.map fun n=>[V.x (.int .i64 n)]
theorem anyO_take {l:List Pos} {i:Nat} (h:i<l.length) (ho:(l.getD i default).over=true):anyO l=true :=
 List.any_eq_true.2 ⟨l[i],List.getElem_mem h,by rw[<-gp_el h];exact ho⟩
theorem take_map1 {l:List Pos} (f:Pos->Int) {i:Nat} (h:i<l.length):(l.take (i+1)).map f=(l.take i).map f++[f (l.getD i default)]:=by
 rw[List.take_add_one,List.getElem?_eq_getElem h,gp_el h,List.map_append,Option.toList_some,List.map_cons,List.map_nil]
def qAK11:=PLift.up (An @getD_pR (An @List.map_append.{0,0} (An @List.map_cons.{0,0} (An @List.map_nil.{0,0} (An @List.length_append.{0} (An @List.length_cons.{0} (An @List.length_nil.{0} @List.length_map.{0,0})))))))
theorem tog_c (l:List Pos) (h0:0<l.length) (hl:l.length<=1000) (a sy:ByteArray) (ha:(l.getD 0 default).acc=a) (hs:(l.getD 0 default).sym=sy) (r:Pos) (hr:togP a sy l=r):ACall prog 44 [] [psD l] (pD r) []:=by
 have hq1:True:=trivial;have hq2:True:=trivial;have hq3:True:=trivial;have hs1:True:=trivial;have hs2:True:=trivial;refine Ac func44 ?_;have hq1:=ha;have hq2:=hs;refine Wk (An @hq1 (An @hq2 (An @hq3 qAK11.1))) (An @hs1 @hs2) ?_
 refine AWp.loop (τ:=ren [(1,640)]) (fun s:Nat×List Int×List Int=>mkSt [(2,.p 0 0),(3,.p 1 0),(4,.e (.c (.o 2 s.2.1.length))),(5,.e (.c (.o 3 s.2.2.length))),(21,psD l),(22,I l.length),(23,I s.1)] [(0,.loc (pC ⟨⟨#[]⟩,⟨#[]⟩,0,0,false⟩)),(1,.loc (pC ⟨a,sy,0,0,false⟩)),(2,.row 1 (iR s.2.1)),(3,.row 1 (iR s.2.2))] 4)
  (fun s=>s.1<=l.length/\s.2.1=(l.take s.1).map (fun x=>x.qty)/\s.2.2=(l.take s.1).map (fun x=>x.value)/\anyO (l.take s.1)=false) (fun s=>l.length - s.1) (0,[],[]) ⟨Nat.zero_le _,rfl,rfl,rfl⟩ (by refine Le.of (ν:=[2,3]) (by kernel_rfl) ?_ ?_<;>((refine Lw (An @hq1 (An @hq2 (An @hq3 qAK11.1))) ?_;try exact ⟨⟩);try (first|omega|rfl))) fun st hst=>?_
 obtain ⟨i,qs,vs⟩:=st;obtain ⟨hi,hqs,hvs,hov⟩:=hst;dsimp only at hi hqs hvs hov ⊢;have hql:qs.length=i:=by rw[hqs,List.length_map,List.length_take];omega
 have hvl:vs.length=i:=by rw[hvs,List.length_map,List.length_take];omega
 clear hq1 hq2;have hq1:True:=trivial;have hq2:True:=trivial;refine Wk (An @hq1 (An @hq2 (An @hq3 qAK11.1))) (An @hs1 @hs2) ?_;refine Cb ?_ ?_<;>intro hc<;>(try exact ⟨⟩)
 .have hil:i<l.length:=by omega
  by_cases hov2:(l.getD i default).over=true
  .have e:r=⟨a,sy,0,0,true⟩:=by rw[<-hr,togP_over (anyO_take hil hov2)]
   subst e;refine Wk (An @hq1 (An @hq2 (An @hq3 qAK11.1))) (An @hs1 @hs2) ?_;refine Cb ?_ ?_<;>intro hc<;>(try exact ⟨⟩)
   .refine Wk (An @hq1 (An @hq2 (An @hq3 qAK11.1))) (An @hs1 @hs2) ?_;refine Fn @results44 (An @hq1 (An @hq2 (An @hq3 qAK11.1))) ?_;try exact ⟨⟩
   .rw[hov2]at hc;cases hc
  .have hov3:anyO (l.take (i+1))=false:=by
    unfold anyO at hov ⊢;rw[List.take_add_one,List.getElem?_eq_getElem hil,List.any_append,hov,Option.toList_some,List.any_cons,List.any_nil,<-gp_el hil];simpa using hov2
   have e1:=take_map1 (fun x=>x.qty) hil;have e2:=take_map1 (fun x=>x.value) hil;rw[<-hqs]at e1;rw[<-hvs]at e2;refine Wk (An @hq1 (An @hq2 (An @hq3 qAK11.1))) (An @hs1 @hs2) ?_;refine Cb ?_ ?_<;>intro hc<;>(try exact ⟨⟩)
   .contradiction
   .refine Wk (An @hq1 (An @hq2 (An @hq3 qAK11.1))) (An @hs1 @hs2) ?_;refine Za (τ:=ren [(2,708),(3,1092)]) (ν:=[]) (i+1,qs++[(l.getD i default).qty],vs++[(l.getD i default).value]) ⟨hil,e1.symm,e2.symm,hov3⟩ (by dsimp only;omega) ?_;refine Le.of (by kernel_rfl) ?_ ?_<;>((refine Lw (An @hq1 (An @hq2 (An @hq3 qAK11.1))) ?_;try exact ⟨⟩);try (first|omega|rfl))
 .obtain rfl:i=l.length:=by omega
  rw[List.take_length]at hqs hvs hov;obtain ⟨⟨q,qb⟩,hQ⟩:∃x,sumS qs=x:=⟨_,rfl⟩
  obtain ⟨⟨v,vb⟩,hV⟩:∃x,sumS vs=x:=⟨_,rfl⟩
  have hs1:=sum53_c qs (by omega) _ hQ;have hs2:=sum53_c vs (by omega) _ hV;unfold togP at hr;rw[<-hqs,<-hvs,hQ,hV]at hr;by_cases hb:qb=true/\vb=true
  .rw[if_pos ⟨hov,hb⟩]at hr;obtain ⟨rfl,rfl⟩:=hb;subst hr;refine Wk (An @hq1 (An @hq2 (An @hq3 qAK11.1))) (An @hs1 @hs2) ?_;refine Cb ?_ ?_<;>intro hc<;>(try exact ⟨⟩)
   .first|contradiction|(simp at hc;done)
   .refine Wk (An @hq1 (An @hq2 (An @hq3 qAK11.1))) (An @hs1 @hs2) ?_;refine Fn @results44 (An @hq1 (An @hq2 (An @hq3 qAK11.1))) ?_;try exact ⟨⟩
  .rw[if_neg (fun h=>hb h.2)]at hr;subst hr;refine Wk (An @hq1 (An @hq2 (An @hq3 qAK11.1))) (An @hs1 @hs2) ?_;refine Cb ?_ ?_<;>intro hc<;>(try exact ⟨⟩)
   .refine Wk (An @hq1 (An @hq2 (An @hq3 qAK11.1))) (An @hs1 @hs2) ?_;refine Fn @results44 (An @hq1 (An @hq2 (An @hq3 qAK11.1))) ?_;try exact ⟨⟩
   .exact absurd hc (by simpa using hb)
end NA
namespace NA
def qAK32:=PLift.up (An @Zd @right_c)
def qAK31:=PLift.up (An @getD_pR (An @List.map_append.{0,0} (An @List.map_cons.{0,0} (An @List.map_nil.{0,0} (An @List.length_append.{0} (An @List.length_cons.{0} (An @List.length_nil.{0} @List.length_map.{0,0})))))))
open Classical in
noncomputable def rgtB (l:List Pos):Bool:=decide (rgtP l)
open Classical in
theorem rgtB_yes {l:List Pos} (h:rgtP l):rgtB l=true:=by unfold rgtB;exact decide_eq_true h
open Classical in
theorem rgtB_no {l:List Pos} (h:¬rgtP l):rgtB l=false:=by unfold rgtB;exact decide_eq_false h
theorem okN_r {n:Int} (h:okN n):rightN n=true:=rightN_spec.2 h
theorem right15_c (l:List Pos) (hl:l.length<=1000000) (b:Bool) (hb:rgtB l=b):ACall prog 41 [] [psD l] (B b) []:=by
 have hless:True:=trivial;have hq1:True:=trivial;have hq2:True:=trivial;have hq3:True:=trivial;have hpr:True:=trivial;refine Ac func41 ?_;refine Wk (An @hq1 (An @hq2 (An @hq3 (An @hpr qAK31.1)))) (An @hless qAK32.1) ?_;refine AWp.loop (fun i:Nat=>mkSt [(0,psD l),(5,psD l),(6,I l.length),(7,I i)] [] 0) (fun i=>i<=l.length/\∀j,j<i->stepOk l j) (fun i=>l.length - i) 0 ⟨Nat.zero_le _,fun j hj=>absurd hj (Nat.not_lt_zero _)⟩ (by refine Le.of (τ:=[]) (ν:=[]) (by kernel_rfl) ?_ ?_<;>((refine Lw (An @hq1 (An @hq2 (An @hq3 (An @hpr qAK31.1)))) ?_;try exact ⟨⟩);try rfl)) fun i hi=>?_;obtain ⟨hi,hj⟩:=hi;refine Wk (An @hq1 (An @hq2 (An @hq3 (An @hpr qAK31.1)))) (An @hless qAK32.1) ?_;refine Cb ?_ ?_<;>intro hc<;>(try exact ⟨⟩)
 .have hil:i<l.length:=by omega
  have hpr:0<i->((i:Int) - 1).toNat=i - 1:=fun _=>by omega
  by_cases hs:stepOk l i
  .have hj2:∀j,j<i+1->stepOk l j:=fun j h=>by
    rcases (show j<i\/j=i by omega) with h|rfl
    .exact hj j h
    .exact hs
   clear hb;obtain ⟨h1,h2,h3,h4⟩:=hs;have h2':=okN_r h2;have h3':=okN_r h3;by_cases hi0:i=0
   .subst hi0;refine Wk (An @hq1 (An @hq2 (An @hq3 (An @hpr qAK31.1)))) (An @hless qAK32.1) ?_;refine Cb ?_ ?_<;>intro hc<;>(try exact ⟨⟩)
    .omega
    .refine Wk (An @hq1 (An @hq2 (An @hq3 (An @hpr qAK31.1)))) (An @hless qAK32.1) ?_;refine Cb ?_ ?_<;>intro hc<;>(try exact ⟨⟩)
     .simp_all
     .refine Wk (An @hq1 (An @hq2 (An @hq3 (An @hpr qAK31.1)))) (An @hless qAK32.1) ?_;refine Cb ?_ ?_<;>intro hc<;>(try exact ⟨⟩)
      .simp_all
      .refine Wk (An @hq1 (An @hq2 (An @hq3 (An @hpr qAK31.1)))) (An @hless qAK32.1) ?_;refine Za 1 ⟨by omega,hj2⟩ (by omega) (by refine Le.of (τ:=[]) (ν:=[]) (by kernel_rfl) ?_ ?_<;>((refine Lw (An @hq1 (An @hq2 (An @hq3 (An @hpr qAK31.1)))) ?_;try exact ⟨⟩);try omega))
   .have hpr:((i:Int) - 1).toNat=i - 1:=by omega
    have h1:=h1 (by omega);refine Wk (An @hq1 (An @hq2 (An @hq3 (An @hpr qAK31.1)))) (An @hless qAK32.1) ?_;refine Cb ?_ ?_<;>intro hc<;>(try exact ⟨⟩)
    .exact absurd (show 0<=cmpP (l.getD (i - 1) default) (l.getD i default) from hc.2) (by omega)
    .refine Wk (An @hq1 (An @hq2 (An @hq3 (An @hpr qAK31.1)))) (An @hless qAK32.1) ?_;refine Cb ?_ ?_<;>intro hc<;>(try exact ⟨⟩)
     .simp_all
     .refine Wk (An @hq1 (An @hq2 (An @hq3 (An @hpr qAK31.1)))) (An @hless qAK32.1) ?_;refine Cb ?_ ?_<;>intro hc<;>(try exact ⟨⟩)
      .simp_all
      .refine Wk (An @hq1 (An @hq2 (An @hq3 (An @hpr qAK31.1)))) (An @hless qAK32.1) ?_;refine Za (i+1) ⟨by omega,hj2⟩ (by omega) (by refine Le.of (τ:=[]) (ν:=[]) (by kernel_rfl) ?_ ?_<;>((refine Lw (An @hq1 (An @hq2 (An @hq3 (An @hpr qAK31.1)))) ?_;try exact ⟨⟩);try omega))
  .have e:b=false:=by rw[<-hb];exact rgtB_no (fun h=>hs (h i hil))
   subst e;by_cases hi0:i=0
   .subst hi0;refine Wk (An @hq1 (An @hq2 (An @hq3 (An @hpr qAK31.1)))) (An @hless qAK32.1) ?_;refine Cb ?_ ?_<;>intro hc<;>(try exact ⟨⟩)
    .omega
    .refine Wk (An @hq1 (An @hq2 (An @hq3 (An @hpr qAK31.1)))) (An @hless qAK32.1) ?_;refine Cb ?_ ?_<;>intro hc<;>(try exact ⟨⟩)
     .refine Wk (An @hq1 (An @hq2 (An @hq3 (An @hpr qAK31.1)))) (An @hless qAK32.1) ?_;refine Fn @results41 (An @hq1 (An @hq2 (An @hq3 (An @hpr qAK31.1)))) ?_;try exact ⟨⟩
     .refine Wk (An @hq1 (An @hq2 (An @hq3 (An @hpr qAK31.1)))) (An @hless qAK32.1) ?_;refine Cb ?_ ?_<;>intro hc<;>(try exact ⟨⟩)
      .refine Wk (An @hq1 (An @hq2 (An @hq3 (An @hpr qAK31.1)))) (An @hless qAK32.1) ?_;refine Fn @results41 (An @hq1 (An @hq2 (An @hq3 (An @hpr qAK31.1)))) ?_;try exact ⟨⟩
      .exfalso;refine hs ⟨fun h=>by omega,rightN_spec.1 ?_,rightN_spec.1 ?_,fun h=>?_⟩<;>simp_all
   .have hpr:((i:Int) - 1).toNat=i - 1:=by omega
    refine Wk (An @hq1 (An @hq2 (An @hq3 (An @hpr qAK31.1)))) (An @hless qAK32.1) ?_;refine Cb ?_ ?_<;>intro hc<;>(try exact ⟨⟩)
    .refine Wk (An @hq1 (An @hq2 (An @hq3 (An @hpr qAK31.1)))) (An @hless qAK32.1) ?_;refine Fn @results41 (An @hq1 (An @hq2 (An @hq3 (An @hpr qAK31.1)))) ?_;try exact ⟨⟩
    .have hc1:=hc;refine Wk (An @hq1 (An @hq2 (An @hq3 (An @hpr qAK31.1)))) (An @hless qAK32.1) ?_;refine Cb ?_ ?_<;>intro hc<;>(try exact ⟨⟩)
     .refine Wk (An @hq1 (An @hq2 (An @hq3 (An @hpr qAK31.1)))) (An @hless qAK32.1) ?_;refine Fn @results41 (An @hq1 (An @hq2 (An @hq3 (An @hpr qAK31.1)))) ?_;try exact ⟨⟩
     .have hc2:=hc;refine Wk (An @hq1 (An @hq2 (An @hq3 (An @hpr qAK31.1)))) (An @hless qAK32.1) ?_;refine Cb ?_ ?_<;>intro hc<;>(try exact ⟨⟩)
      .refine Wk (An @hq1 (An @hq2 (An @hq3 (An @hpr qAK31.1)))) (An @hless qAK32.1) ?_;refine Fn @results41 (An @hq1 (An @hq2 (An @hq3 (An @hpr qAK31.1)))) ?_;try exact ⟨⟩
      .exfalso;refine hs ⟨fun h=>?_,rightN_spec.1 ?_,rightN_spec.1 ?_,fun h=>?_⟩
       .rcases hc1 with h|h
        .omega
        .exact Int.not_le.1 h
       all_goals simp_all
 .obtain rfl:i=l.length:=by omega
  have e:b=true:=by rw[<-hb];exact rgtB_yes hj
  subst e;refine Wk (An @hq1 (An @hq2 (An @hq3 (An @hpr qAK31.1)))) (An @hless qAK32.1) ?_;refine Fn @results41 (An @hq1 (An @hq2 (An @hq3 (An @hpr qAK31.1)))) ?_;try exact ⟨⟩
end NA
namespace NA
abbrev LR (ls:List (List Pos)):List (List V):=ls.map fun l=>[V.s 5 (pR l)]
abbrev LL (ls:List (List Pos)):D:=.e (.c (.v (.s 1 (LR ls))))
theorem getD_LR (ls:List (List Pos)) (i:Nat) (hi:i<ls.length) (d:List V):(ls.map fun l=>[V.s 5 (pR l)]).getD i d=[V.s 5 (pR (ls.getD i default))]:=by
 rw[List.getD_eq_getElem?_getD,List.getElem?_map,List.getD_eq_getElem?_getD,List.getElem?_eq_getElem hi];rfl
theorem flat_at {ls:List (List Pos)} {i:Nat} (h:i<ls.length):(ls.drop i).flatten=ls.getD i default++(ls.drop (i+1)).flatten:=by
 rw[List.drop_eq_getElem_cons h,List.flatten_cons,List.getD_eq_getElem?_getD,List.getElem?_eq_getElem h];rfl
abbrev resA (r:List Pos×Int):D:=.t [.c (.v (.s 5 (pR r.1))),.c (.v (vI r.2))]
theorem len_at {ls:List (List Pos)} {i:Nat} (h:i<ls.length):(ls.getD i default).length<=ls.flatten.length:=by
 have h1:ls.flatten=(ls.take i).flatten++(ls.drop i).flatten:=by rw[<-List.flatten_append,List.take_append_drop]
 rw[flat_at h]at h1;rw[h1];simp only[List.length_append];omega
theorem mem_at {ls:List (List Pos)} {i:Nat} (h:i<ls.length):ls.getD i default∈ls:=by
 rw[List.getD_eq_getElem?_getD,List.getElem?_eq_getElem h];exact List.getElem_mem h
theorem allr_of {ls:List (List Pos)} (h:∀j,j<ls.length->rgtP (ls.getD j default)):∀l,l∈ls->rgtP l:=fun l hl=>by
 obtain ⟨j,hj,rfl⟩:=List.getElem_of_mem hl;have:=h j hj;rw[List.getD_eq_getElem?_getD,List.getElem?_eq_getElem hj]at this;exact this
theorem grp_cut {l:List Pos} {n:Nat} (h0:0<n) (hn:n<=l.length) (hin:∀j,j<n->nm (l.getD 0 default).acc (l.getD 0 default).sym (l.getD j default)=true) (hout:n<l.length->nm (l.getD 0 default).acc (l.getD 0 default).sym (l.getD n default)=false) :
 grpF l=togP (l.getD 0 default).acc (l.getD 0 default).sym (l.take n)::grpF (l.drop n):=by
 cases l with
 | nil=>simp at hn;omega
 | cons x l =>
  obtain ⟨m,rfl⟩:∃m,n=m+1:=⟨n - 1,by omega⟩
  simp only[List.getD_cons_zero,List.length_cons]at hin hout hn ⊢
  have key:∀(m:Nat) (l:List Pos),m<=l.length->(∀j,j<m->nm x.acc x.sym (l.getD j default)=true)->(m<l.length->nm x.acc x.sym (l.getD m default)=false)->l.takeWhile (nm x.acc x.sym)=l.take m/\l.dropWhile (nm x.acc x.sym)=l.drop m:=by
   intro m
   induction m with
   | zero =>
    intro l _ _ h3
    cases l with
    | nil=>exact ⟨rfl,rfl⟩
    | cons y l =>
     have:=h3 (by simp);simp only[List.getD_cons_zero]at this;rw[List.takeWhile_cons,List.dropWhile_cons,this]
     exact ⟨rfl,rfl⟩
   | succ m ih =>
    intro l h1 h2 h3
    cases l with
    | nil=>simp at h1
    | cons y l =>
     have hy:=h2 0 (by omega);simp only[List.getD_cons_zero]at hy;obtain ⟨i1,i2⟩:=ih l (by simpa using h1) (fun j hj=>by have:=h2 (j+1) (by omega);simpa using this) (fun h=>by have:=h3 (by simpa using h);simpa using this);rw[List.takeWhile_cons,List.dropWhile_cons,if_pos hy,if_pos hy,i1,i2];exact ⟨rfl,rfl⟩
  obtain ⟨k1,k2⟩:=key m l (by omega) (fun j hj=>by have:=hin (j+1) (by omega);simpa using this) (fun h=>by have:=hout (by omega);simpa using this);rw[grpF,k1,k2];rfl
def qAK71:=PLift.up (An @evO_f (An @getD_pR (An @getD_LR (An @List.map_append.{0,0} (An @List.map_cons.{0,0} (An @List.map_nil.{0,0} (An @List.length_append.{0} (An @List.length_cons.{0} (An @List.length_nil.{0} @List.length_map.{0,0})))))))))
theorem all13_c (ls:List (List Pos)) (hls:ls.length<=1000) (hl:ls.flatten.length<=1000) (r:List Pos×Int) (hr:allS ls=r):ACall prog 10 [] [LL ls] (resA r) []:=by
 have hright:True:=trivial;have hsort:True:=trivial;have hby:True:=trivial;have htog:True:=trivial;have hq1:True:=trivial;have hq2:True:=trivial;have hq3:True:=trivial;have hpr:True:=trivial;obtain ⟨F,hF⟩:∃F,ls.flatten=F:=⟨_,rfl⟩
 rw[hF]at hl;refine Ac func10 ?_;refine Wo (Own.mk (f:=(oF [42]))) (An @hq1 (An @hq2 (An @hq3 (An @hpr qAK71.1)))) (An @hright (An @hsort (An @hby @htog))) ?_;refine AWp.loop (τ:=ren []) (fun s:Nat×List Pos=>mkSt [(4,.e (.c (.o 0 s.2.length))),(9,LL ls),(10,I ls.length),(11,I s.1)] [(0,.row 5 (pR s.2))] 1) (fun s=>s.1<=ls.length/\s.2++(ls.drop s.1).flatten=F/\∀j,j<s.1->rgtP (ls.getD j default)) (fun s=>ls.length - s.1) (0,[]) ⟨Nat.zero_le _,hF,fun j hj=>absurd hj (Nat.not_lt_zero _)⟩ (by refine Le.of (ν:=[0]) (by kernel_rfl) ?_ ?_<;>((refine Lw (An @hq1 (An @hq2 (An @hq3 (An @hpr qAK71.1)))) ?_;try exact ⟨⟩);try (first|omega|rfl))) fun st hst=>?_;obtain ⟨i,acc⟩:=st;obtain ⟨hi,hac,hj⟩:=hst;dsimp only at hi hac hj ⊢;refine Wo (Own.mk (f:=(oF [42]))) (An @hq1 (An @hq2 (An @hq3 (An @hpr qAK71.1)))) (An @hright (An @hsort (An @hby @htog))) ?_;refine Cb ?_ ?_<;>intro hc<;>(try exact ⟨⟩)
 .have hil:i<ls.length:=by omega
  have hLl:=len_at hil;rw[hF]at hLl;rw[flat_at hil]at hac;obtain ⟨L,hL⟩:∃L,ls.getD i default=L:=⟨_,rfl⟩
  obtain ⟨b,hb⟩:∃b,rgtB (ls.getD i default)=b:=⟨_,rfl⟩
  have hright:=right15_c (ls.getD i default) (by omega) b hb;by_cases hri:rgtP (ls.getD i default)
  .rw[rgtB_yes hri]at hb;subst hb;have hal:acc.length<=1000:=by rw[<-hac,List.length_append]at hl;omega
   rw[hL]at hac hright hLl;have hq1:=hL;refine Wo (Own.mk (f:=(oF [42]))) (An @hq1 (An @hq2 (An @hq3 (An @hpr qAK71.1)))) (An @hright (An @hsort (An @hby @htog))) ?_;refine Cb ?_ ?_<;>intro hc<;>(try exact ⟨⟩)
   .contradiction
   .refine Wo (Own.mk (f:=(oF [42]))) (An @hq1 (An @hq2 (An @hq3 (An @hpr qAK71.1)))) (An @hright (An @hsort (An @hby @htog))) ?_
    refine Za (τ:=ren [(0,577)]) (ν:=[]) (i+1,acc++L) ⟨hil,by dsimp only;rw[List.append_assoc];exact hac,fun j hj2=>by
     rcases (show j<i\/j=i by dsimp only at hj2;omega) with h|rfl
     .exact hj j h
     .exact hri⟩ (by dsimp only;omega) ?_
    refine Le.of (by kernel_rfl) ?_ ?_<;>((refine Lw (An @hq1 (An @hq2 (An @hq3 (An @hpr qAK71.1)))) ?_;try exact ⟨⟩);try (first|omega|rfl))
  .rw[rgtB_no hri]at hb;subst hb;have e:r=([],1):=by rw[<-hr,allS_no];exact fun h=>hri (h _ (mem_at hil))
   subst e;refine Wo (Own.mk (f:=(oF [42]))) (An @hq1 (An @hq2 (An @hq3 (An @hpr qAK71.1)))) (An @hright (An @hsort (An @hby @htog))) ?_;refine Cb ?_ ?_<;>intro hc<;>(try exact ⟨⟩)
   .refine Wo (Own.mk (f:=(oF [42]))) (An @hq1 (An @hq2 (An @hq3 (An @hpr qAK71.1)))) (An @hright (An @hsort (An @hby @htog))) ?_;refine Fn @results10 (An @hq1 (An @hq2 (An @hq3 (An @hpr qAK71.1)))) ?_;try exact ⟨⟩
   .contradiction
 .obtain rfl:i=ls.length:=by omega
  rw[List.drop_length,List.flatten_nil,List.append_nil]at hac;subst hac;have e:(grpF (sortF acc),0)=r:=by rw[<-hr,allS_yes (allr_of hj),hF];rfl
  obtain ⟨G,hG⟩:∃G,sortF acc=G:=⟨_,rfl⟩
  have hsort:=sort_c acc (by omega) G hG;have hGl:G.length=acc.length:=by rw[<-hG];exact (sortF_perm acc).length_eq
  rw[hG]at e;obtain ⟨R,hR⟩:∃R,grpF G=R:=⟨_,rfl⟩
  rw[hR]at e;subst e;clear hj hi hr hF;refine Wo (Own.mk (f:=(oF [42]))) (An @hq1 (An @hq2 (An @hq3 (An @hpr qAK71.1)))) (An @hright (An @hsort (An @hby @htog))) ?_;refine AWp.freeze [] ?_;refine AWp.loop (τ:=ren []) (fun s:List Pos×List Pos=>mkSt [(4,psD s.1),(7,.e (.c (.o 0 s.2.length)))] [(0,.row 5 (pR s.2))] 1) (fun s=>s.2++grpF s.1=R/\s.1.length+s.2.length<=1000) (fun s=>s.1.length) (G,[]) ⟨hR,by simp;omega⟩ (by refine Le.of (ν:=[0]) (by kernel_rfl) ?_ ?_<;>((refine Lw (An @hq1 (An @hq2 (An @hq3 (An @hpr qAK71.1)))) ?_;try exact ⟨⟩);try (first|omega|rfl|exact ⟨(List.take_of_length_le (by simp;omega)).symm,by omega⟩))) fun st hst=>?_;obtain ⟨q,o⟩:=st;obtain ⟨hg,hgl⟩:=hst;dsimp only at hg hgl ⊢;have hsort:True:=trivial;refine Wo (Own.mk (f:=(oF [42]))) (An @hq1 (An @hq2 (An @hq3 (An @hpr qAK71.1)))) (An @hright (An @hsort (An @hby @htog))) ?_;refine Cb ?_ ?_<;>intro hc<;>(try exact ⟨⟩)
  .have hq0:0<q.length:=by omega
   obtain ⟨x,hx⟩:∃x,q.getD 0 default=x:=⟨_,rfl⟩
   have hq1:=hx
   have hst1:∀j,j<1->nm x.acc x.sym (q.getD j default)=true:=fun j hj=>by
    obtain rfl:j=0:=by omega
    rw[hx];exact nm_self x
   refine Wo (Own.mk (f:=(oF [42]))) (An @hq1 (An @hq2 (An @hq3 (An @hpr qAK71.1)))) (An @hright (An @hsort (An @hby @htog))) ?_;refine AWp.loop (τ:=ren []) (fun n:Nat=>mkSt [(4,psD q),(7,.e (.c (.o 0 o.length))),(8,I n)] [(0,.row 5 (pR o))] 1) (fun n=>1<=n/\n<=q.length/\∀j,j<n->nm x.acc x.sym (q.getD j default)=true) (fun n=>q.length - n) 1 ⟨Nat.le_refl _,hq0,hst1⟩ (by refine Le.of (ν:=[]) (by kernel_rfl) ?_ ?_<;>((refine Lw (An @hq1 (An @hq2 (An @hq3 (An @hpr qAK71.1)))) ?_;try exact ⟨⟩);try (first|omega|rfl))) fun n hn=>?_;obtain ⟨hn1,hn2,hin⟩:=hn;obtain ⟨y,hy⟩:∃y,q.getD n default=y:=⟨_,rfl⟩
   have hq2:=hy;have hby:=Zd x y;refine Wo (Own.mk (f:=(oF [42]))) (An @hq1 (An @hq2 (An @hq3 (An @hpr qAK71.1)))) (An @hright (An @hsort (An @hby @htog))) ?_;refine Cb ?_ ?_<;>intro hc<;>(try exact ⟨⟩)
   .have hnl:n<q.length:=by omega
    have h0:=hc.2;refine Wo (Own.mk (f:=(oF [42]))) (An @hq1 (An @hq2 (An @hq3 (An @hpr qAK71.1)))) (An @hright (An @hsort (An @hby @htog))) ?_
    refine Za (τ:=ren []) (ν:=[]) (n+1) ⟨by omega,hnl,fun j hj=>by
     rcases (show j<n\/j=n by omega) with h|rfl
     .exact hin j h
     .rw[hy];exact nm_cmp.2 h0⟩ (by omega) ?_
    refine Le.of (by kernel_rfl) ?_ ?_<;>((refine Lw (An @hq1 (An @hq2 (An @hq3 (An @hpr qAK71.1)))) ?_;try exact ⟨⟩);try (first|omega|rfl))
   .have hcut:=grp_cut (l:=q) (n:=n) (by omega) hn2 (by rw[hx];exact hin) (fun hlt=>by
     rw[hx,hy];rcases hc with h|h
     .omega
     .cases e:nm x.acc x.sym y with
      | false=>rfl
      | true=>exact absurd (nm_cmp.1 e) h)
    rw[hcut,hx]at hg;obtain ⟨t,ht⟩:∃t,togP x.acc x.sym (q.take n)=t:=⟨_,rfl⟩
    rw[ht]at hg
    have h00:(q.take n).getD 0 default=x:=by
     rw[<-hx,List.getD_eq_getElem?_getD,List.getElem?_take_of_lt (by omega),List.getD_eq_getElem?_getD]
    have htog:=tog_c (q.take n) (by rw[List.length_take];omega) (by rw[List.length_take];omega) x.acc x.sym (by rw[h00]) (by rw[h00]) t ht;have hdl:(q.drop n).length=q.length - n:=List.length_drop ..;have etk:pR (q.take n)=(pR q).take n:=List.map_take ..;have edr:pR (q.drop n)=(pR q).drop n:=List.map_drop ..;rw[show psD (q.take n)=D.e (.c (.v (.s 5 ((pR q).take n)))) by rw[<-etk]]at htog;refine Wo (Own.mk (f:=(oF [42]))) (An @hq1 (An @hq2 (An @hq3 (An @hpr qAK71.1)))) (An @hright (An @hsort (An @hby @htog))) ?_;refine Za (τ:=ren [(0,1345)]) (ν:=[]) (q.drop n,o++[t]) ⟨by dsimp only;rw[List.append_assoc];exact hg,by simp;omega⟩ (by dsimp only;omega) ?_;refine Le.of (by kernel_rfl) ?_ ?_<;>((refine Lw (An @hq1 (An @hq2 (An @hq3 (An @hpr qAK71.1)))) ?_;try exact ⟨⟩);try (first|omega|rfl|exact congrArg (V.s 5) edr))
  .obtain rfl:q=[]:=List.eq_nil_of_length_eq_zero (by omega);rw[grpF,List.append_nil]at hg;subst hg;refine Wo (Own.mk (f:=(oF [42]))) (An @hq1 (An @hq2 (An @hq3 (An @hpr qAK71.1)))) (An @hright (An @hsort (An @hby @htog))) ?_;refine Fn @results10 (An @hq1 (An @hq2 (An @hq3 (An @hpr qAK71.1)))) ?_;try exact ⟨⟩
end NA
section
open Go.RowKit Go.Maps Go.Sort Go.Shelf
structure Nam where
 acc:ByteArray
 sym:ByteArray
deriving DecidableEq
instance :Inhabited Nam:=⟨⟨⟨#[]⟩,⟨#[]⟩⟩⟩
abbrev nR (l:List Nam):List (List V):=l.map fun x=>[V.x (.string x.acc),V.x (.string x.sym)]
abbrev nsD (l:List Nam):D:=.e (.c (.v (.s 2 (nR l))))
def encN (x:Nam):List Value:=[.string x.acc,.string x.sym]
def toP (n:Nam):NA.Pos:=⟨n.acc,n.sym,0,0,false⟩
def cmpN (a b:Nam):Int:=NA.cmpP (toP a) (toP b)
theorem cmpN_eq {a b:Nam}:cmpN a b=0↔a=b:=by
 rw[cmpN,NA.cmpP_eq];constructor
 .rintro ⟨h1,h2⟩;cases a;cases b;simp only[toP]at h1 h2;rw[h1,h2]
 .rintro rfl;exact ⟨rfl,rfl⟩
theorem rowN_one {l:List Nam} {i j:Nat} {r:List V} {v:V} (hi:(nR l)[i]?=some r) (hj:r[j]?=some v):∃x,l[i]?=some x/\((j=0/\v=.x (.string x.acc))\/(j=1/\v=.x (.string x.sym))):=by
 rw[List.getElem?_map]at hi;obtain ⟨s,hs,rfl⟩:=Option.map_eq_some_iff.1 hi;refine ⟨s,hs,?_⟩
 match j,hj with
 | 0,hj=>cases hj;exact .inl ⟨rfl,rfl⟩
 | 1,hj=>cases hj;exact .inr ⟨rfl,rfl⟩
 | j+2,hj=>simp at hj
theorem nan_raw (s:ByteArray) (W:World):Calls prog 109 #[.string s] W fun e w'=>e=.returned (.bool false)/\w'=W:=by
 go_enter func109,ntmps109
 go_wp2
 go_ret
 simp
theorem cmp_raw (a b:ByteArray) (W:World):Calls prog 39 #[.string a,.string b] W fun e w'=>e=.returned (.int .i64 (NA.cmpS a b))/\w'=W:=by
 have hn:=nan_raw
 go_enter func39,ntmps39
 go_wp2_with (go_at_call 109;refine (hn _ _).mono ?_;rintro e w' ⟨rfl,rfl⟩)
 all_goals (go_ret;refine ⟨?_,rfl⟩;unfold NA.cmpS;simp only[<-ba_toList];simp_all)
theorem or_raw (x y:Int) (b:Nat) (W:World) (r:Int) (hr:(if x≠0 then x else y)=r) (h0:W.cell? ⟨b,0,none⟩=some (.int .i64 x)) (h1:W.cell? ⟨b,1,none⟩=some (.int .i64 y)) :
 Calls prog 38 #[.slice (some ⟨b,0,none⟩) 2 2] W fun e w'=>e=.returned (.int .i64 r)/\w'=W:=by
 go_enter func38,ntmps38
 go_wp2
 refine wp_loop_rounds 3 ?_;rw[rounds_succ]
 go_wp2
 all_goals try rw[rounds_succ]
 all_goals try go_wp2
 all_goals try rw[rounds_succ]
 all_goals try go_wp2
 all_goals (go_ret;refine ⟨?_,rfl⟩;rw[<-hr];simp_all)
theorem cl_raw (x y:Nam) (W:World):Calls prog 37 #[.agg #[.string x.acc,.string x.sym],.agg #[.string y.acc,.string y.sym]] W fun e w'=>e=.returned (.int .i64 (cmpN x y))/\∃q os',w'=grow (W.drewN q) os':=by
 obtain ⟨r,hr⟩:∃r,cmpN x y=r:=⟨_,rfl⟩
 rw[hr]
 go_enter func37,ntmps37
 go_wp2_with fail
 obtain ⟨W1,hW1⟩:∃W1,W.alloc (Obj.cells #[.string x.acc,.string x.sym] 111)=W1:=⟨_,rfl⟩
 obtain ⟨W2,hW2⟩:∃W2,W1.alloc (Obj.cells #[.string y.acc,.string y.sym] 111)=W2:=⟨_,rfl⟩
 rw[hW1,hW2];have c0:W2.cell? ⟨W.heap.size,0,none⟩=some (.string x.acc):=by rw[<-hW2,<-hW1,World.cell?_alloc_past _ _ _ (by rw[World.size_alloc];omega),World.cell?_alloc_at _ _ _ _ rfl];rfl
 have c1:W2.cell? ⟨W.heap.size,1,none⟩=some (.string x.sym):=by rw[<-hW2,<-hW1,World.cell?_alloc_past _ _ _ (by rw[World.size_alloc];omega),World.cell?_alloc_at _ _ _ _ rfl];rfl
 have c2:W2.cell? ⟨W.heap.size+1,0,none⟩=some (.string y.acc):=by rw[<-hW2,World.cell?_alloc_at _ _ _ _ (by rw[<-hW1,World.size_alloc])];rfl
 have c3:W2.cell? ⟨W.heap.size+1,1,none⟩=some (.string y.sym):=by rw[<-hW2,World.cell?_alloc_at _ _ _ _ (by rw[<-hW1,World.size_alloc])];rfl
 refine wp_region_still_tail 10 (by kernel_rfl) (by kernel_rfl) ?_;simp only[List.take_succ_cons,List.take_zero,List.drop_succ_cons,List.drop_zero];generalize hW3:({ W2 with drawn:=W2.drawn+1 }:World)=W3;have d0:W3.cell? ⟨W.heap.size,0,none⟩=some (.string x.acc):=by rw[<-hW3];exact c0
 have d1:W3.cell? ⟨W.heap.size,1,none⟩=some (.string x.sym):=by rw[<-hW3];exact c1
 have d2:W3.cell? ⟨W.heap.size+1,0,none⟩=some (.string y.acc):=by rw[<-hW3];exact c2
 have d3:W3.cell? ⟨W.heap.size+1,1,none⟩=some (.string y.sym):=by rw[<-hW3];exact c3
 repeat still_step
 still_call (cmp_raw _ _ _)
 repeat still_step
 still_call (cmp_raw _ _ _)
 refine wpStill_nil ?_
 go_wp2_with (go_at_call 38;refine (or_raw _ _ _ _ r hr (by rw[World.cell?_alloc_at _ _ _ _ rfl];rfl) (by rw[World.cell?_alloc_at _ _ _ _ rfl];rfl)).mono ?_;rintro e w' ⟨rfl,rfl⟩)
 go_ret
 refine ⟨rfl,1,#[.cells #[.string x.acc,.string x.sym] 111,.cells #[.string y.acc,.string y.sym] 111,.cells #[.int .i64 (NA.cmpS x.acc y.acc),.int .i64 (NA.cmpS x.sym y.sym)] 3],?_⟩
 have e1:W2=grow W #[.cells #[.string x.acc,.string x.sym] 111,.cells #[.string y.acc,.string y.sym] 111]:=by
  rw[<-hW2,<-hW1,alloc_eq_grow,alloc_eq_grow,grow_grow];rfl
 have e3:W3=grow (W.drewN 1) #[.cells #[.string x.acc,.string x.sym] 111,.cells #[.string y.acc,.string y.sym] 111]:=by
  rw[<-hW3,e1];rfl
 rw[e3,alloc_eq_grow,grow_grow];rfl
end
theorem rowAt_nR (l:List Nam) (ty:Ty) (i off:Nat) (h:i<l.length):rowAt ty (l.map fun x=>[V.x (.string x.acc),V.x (.string x.sym)]) i off=[V.x (.string (l.getD i default).acc),V.x (.string (l.getD i default).sym)].drop off:=rowAt_map _ l ty i off h
def dedT (l:List Nam):Nat->List Nam
 | 0=>[]
 | m+1=>if 0<m/\l.getD m default=l.getD (m - 1) default then dedT l m else dedT l m++[l.getD m default]
def dedN (l:List Nam):List Nam:=dedT l l.length
theorem dedT_len (l:List Nam):∀m,(dedT l m).length<=m
 | 0=>Nat.le_refl _
 | m+1=>by
  have:=dedT_len l m;rw[dedT]
  split
  .omega
  .rw[List.length_append];simp;omega
theorem dedT_one {l:List Nam} (h:0<l.length):dedT l 1=l.take 1:=by
 rw[dedT,if_neg (by omega),dedT]
 cases l with
 | nil=>simp at h
 | cons x l=>rfl
theorem nam_eq {a b:Nam}:a=b↔a.acc.data.toList=b.acc.data.toList/\a.sym.data.toList=b.sym.data.toList:=by
 constructor
 .rintro rfl;exact ⟨rfl,rfl⟩
 .rintro ⟨h1,h2⟩;cases a;cases b;simp only at h1 h2;rw[NA.ba_eq h1,NA.ba_eq h2]
theorem take_ext {l:List Nam} {m:Nat} (h:m<l.length):l.take (m+1)=l.take m++[l.getD m default]:=by
 rw[List.take_add_one,List.getElem?_eq_getElem h,List.getD_eq_getElem?_getD,List.getElem?_eq_getElem h];rfl
def padN (l:List Nam) (n:Nat):List Nam:=l++List.replicate (n - l.length) default
theorem set_nR (q:List Nam) (i:Nat) (x:Nam) (h:i<q.length):(nR q).set i (splice ((nR q).getD i []) 0 [V.x (.string x.acc),V.x (.string x.sym)])=nR (q.set i x):=by
 have e:(nR q).getD i []=[V.x (.string (q.getD i default).acc),V.x (.string (q.getD i default).sym)]:=getD_map _ _ _ h;rw[e];show _=(q.set i x).map _;rw[List.map_set];rfl
theorem clr_nR (q:List Nam) (k:Nat) (h:k<=q.length):putRows (nR q) k (List.replicate (q.length - k) [V.x (.string ⟨#[]⟩),V.x (.string ⟨#[]⟩)])=nR (padN (q.take k) q.length):=by
 unfold putRows splice padN;rw[List.length_replicate,List.drop_of_length_le (by rw[List.length_map];omega),List.append_nil];show _=List.map _ (List.take k q++List.replicate (q.length - (List.take k q).length) default);rw[List.map_append,List.map_take,List.map_replicate,List.length_take,Nat.min_eq_left h];rfl
def qCP1:=PLift.up (An @rowAt_nR (An @List.length_set.{0} @List.length_map.{0,0}))
theorem compact_c (l:List Nam) (hl:l.length<=1000000) (r:List Nam) (hr:dedN l=r):ACall prog 40 [.row 2 (nR l)] [.e (.c (.o 0 l.length))] (.e (.c (.o 0 r.length))) [.row 2 (nR (padN r l.length))]:=by
 obtain ⟨N,hN⟩:∃N,l.length=N:=⟨_,rfl⟩
 unfold dedN at hr;rw[hN]at hl hr ⊢;have hrl:=dedT_len l N;rw[hr]at hrl;refine Ac func40 ?_;have hp1:True:=trivial;have hp2:True:=trivial;have hql:=hN;refine Wo (Own.mk (f:=(oF [0]))) (An @hp1 (An @hp2 (An @hql qCP1.1))) trivial ?_;refine Cb ?_ ?_<;>intro hc<;>(try exact ⟨⟩)
 .have e:r=l:=by
   rw[<-hr];rcases (show N=0\/N=1 by omega) with h|h
   .rw[h]at hN ⊢;rw[List.eq_nil_of_length_eq_zero hN];rfl
   .rw[h]at hN ⊢;rw[dedT_one (by omega)];exact List.take_of_length_le (by omega)
  subst e;refine Wo (Own.mk (f:=(oF [0]))) (An @hp1 (An @hp2 (An @hql qCP1.1))) trivial ?_;refine Fs @results40 ?_;refine ⟨[0],[],[],by kernel_rfl,?_,?_⟩<;>((refine Lw (An @hp1 (An @hp2 (An @hql qCP1.1))) ?_;try exact ⟨⟩);try omega)
  all_goals (rw[padN,hN,Nat.sub_self];simp)
 .refine Wo (Own.mk (f:=(oF [0]))) (An @hp1 (An @hp2 (An @hql qCP1.1))) trivial ?_;refine AWp.loop (fun k:Nat=>mkSt [(0,.e (.c (.o 0 N))),(3,I k)] [(0,.row 2 (nR l))] 1) (fun k=>1<=k/\k<=N/\dedT l k=l.take k) (fun k=>N - k) 1 ⟨Nat.le_refl _,by omega,dedT_one (by omega)⟩ (by refine Le.of (τ:=[]) (ν:=[]) (by kernel_rfl) ?_ ?_<;>((refine Lw (An @hp1 (An @hp2 (An @hql qCP1.1))) ?_;try exact ⟨⟩);try omega)) fun k hk=>?_;obtain ⟨hk1,hkN,hkd⟩:=hk;clear hp1;have hp1:((k:Int) - 1).toNat=k - 1:=by omega
  refine Wo (Own.mk (f:=(oF [0]))) (An @hp1 (An @hp2 (An @hql qCP1.1))) trivial ?_;refine Cb ?_ ?_<;>intro hc<;>(try exact ⟨⟩)
  .have hkl:k<N:=by omega
   refine Wo (Own.mk (f:=(oF [0]))) (An @hp1 (An @hp2 (An @hql qCP1.1))) trivial ?_;refine Cb ?_ ?_<;>intro hc<;>(try exact ⟨⟩)
   .have heq:dedT l (k+1)=l.take k:=by
     rw[dedT,if_pos ⟨hk1,nam_eq.2 hc⟩,hkd]
    refine Wo (Own.mk (f:=(oF [0]))) (An @hp1 (An @hp2 (An @hql qCP1.1))) trivial ?_
    refine AWp.loop (fun s:Nat×Nat×List Nam=>mkSt [(0,.e (.c (.o 0 N))),(3,I s.1),(4,.u 0 2 k (N - k)),(5,I s.2.1)] [(0,.row 2 (nR s.2.2))] 1)
     (fun s=>s.2.2.length=N/\1<=s.2.1/\k+s.2.1<=N/\s.1+1<=k+s.2.1/\s.2.2.take s.1=dedT l (k+s.2.1)/\(dedT l (k+s.2.1)).length=s.1/\∀j,k+s.2.1<=j+1->s.2.2.getD j default=l.getD j default) (fun s=>N - k - s.2.1)
     (k,1,l) ⟨hN,Nat.le_refl _,hkl,Nat.le_refl _,heq.symm,by rw[heq,List.length_take];omega,fun j _=>rfl⟩ (by refine Le.of (τ:=[]) (ν:=[]) (by kernel_rfl) ?_ ?_<;>((refine Lw (An @hp1 (An @hp2 (An @hql qCP1.1))) ?_;try exact ⟨⟩);try (first|omega|rfl|(simp[ren];done)))) fun s hs=>?_
    obtain ⟨kk,k2,q⟩:=s;obtain ⟨hqN,h21,h2N,hkk,hqt,hqk,hqj⟩:=hs;dsimp only at hqN h21 h2N hkk hqt hqk hqj ⊢;clear hql hp1;have hql:=hqN;have hp1:((k2:Int) - 1).toNat=k2 - 1:=by omega
    have hp2:((N:Int) - (k:Int)).toNat=N - k:=by omega
    refine Wo (Own.mk (f:=(oF [0]))) (An @hp1 (An @hp2 (An @hql qCP1.1))) trivial ?_;refine Cb ?_ ?_<;>intro hc<;>(try exact ⟨⟩)
    .have h2l:k+k2<N:=by omega
     have ej:=hqj (k+k2) (by omega);have ei:=hqj (k+(k2 - 1)) (by omega);refine Wo (Own.mk (f:=(oF [0]))) (An @hp1 (An @hp2 (An @hql qCP1.1))) trivial ?_;refine Cb ?_ ?_<;>intro hc<;>(try exact ⟨⟩)
     .have hne:¬(0<k+k2/\l.getD (k+k2) default=l.getD (k+k2 - 1) default):=fun h=>by
       have h2:=h.2;rw[<-ej,show k+k2 - 1=k+(k2 - 1) by omega,<-ei,nam_eq]at h2;exact absurd h2 (by simpa[Classical.or_iff_not_imp_left] using hc)
      have hde:dedT l (k+(k2+1))=dedT l (k+k2)++[q.getD (k+k2) default]:=by
       rw[show k+(k2+1)=k+k2+1 by omega,dedT,if_neg hne,ej]
      have hkl2:kk<q.length:=by omega
      refine Wo (Own.mk (f:=(oF [0]))) (An @hp1 (An @hp2 (An @hql qCP1.1))) trivial ?_
      refine Za (kk+1,k2+1,q.set kk (q.getD (k+k2) default)) ⟨by dsimp only;rw[List.length_set];exact hqN,by dsimp only;omega,by dsimp only;omega,by dsimp only;omega,by dsimp only;rw[hde,<-hqt,take_ext (by rw[List.length_set];exact hkl2),List.take_set_of_le (Nat.le_refl _)];simp[List.getD_eq_getElem?_getD,hkl2],by dsimp only;rw[hde,List.length_append,hqk];rfl,fun j hj=>by
       dsimp only at hj ⊢;rw[List.getD_eq_getElem?_getD,List.getElem?_set_ne (by omega),<-List.getD_eq_getElem?_getD]
       exact hqj j (by omega)⟩ (by dsimp only;omega) (by refine Le.of (τ:=[]) (ν:=[]) (by kernel_rfl) ?_ ?_<;>((refine Lw (An @hp1 (An @hp2 (An @hql qCP1.1))) ?_;try exact ⟨⟩);try (first|omega|rfl|exact (set_nR _ _ _ hkl2).symm)))
     .have hye:0<k+k2/\l.getD (k+k2) default=l.getD (k+k2 - 1) default:=⟨by omega,by
       rw[<-ej,show k+k2 - 1=k+(k2 - 1) by omega,<-ei,nam_eq]
       simpa using hc⟩
      have hde:dedT l (k+(k2+1))=dedT l (k+k2):=by
       rw[show k+(k2+1)=k+k2+1 by omega,dedT,if_pos hye]
      refine Wo (Own.mk (f:=(oF [0]))) (An @hp1 (An @hp2 (An @hql qCP1.1))) trivial ?_;refine Za (kk,k2+1,q) ⟨hqN,by dsimp only;omega,by dsimp only;omega,by dsimp only;omega,by dsimp only;rw[hde];exact hqt,by dsimp only;rw[hde];exact hqk,fun j hj=>hqj j (by dsimp only at hj;omega)⟩ (by dsimp only;omega) (by refine Le.of (τ:=[]) (ν:=[]) (by kernel_rfl) ?_ ?_<;>((refine Lw (An @hp1 (An @hp2 (An @hql qCP1.1))) ?_;try exact ⟨⟩);try (first|omega|rfl)))
    .have hke:k+k2=N:=by omega
     rw[hke,hr]at hqt hqk;subst hqk;refine Wo (Own.mk (f:=(oF [0]))) (An @hp1 (An @hp2 (An @hql qCP1.1))) trivial ?_;refine Fs @results40 ?_;refine ⟨[0],[],[],by kernel_rfl,?_,?_⟩<;>((refine Lw (An @hp1 (An @hp2 (An @hql qCP1.1))) ?_;try exact ⟨⟩);try omega)
     have:=clr_nR q r.length (by omega);rw[hqN,hqt]at this;exact this.symm
   .have hne:¬(0<k/\l.getD k default=l.getD (k - 1) default):=fun h=>by
     have h2:=h.2;rw[nam_eq]at h2;exact absurd h2 (by simpa[Classical.or_iff_not_imp_left] using hc)
    refine Wo (Own.mk (f:=(oF [0]))) (An @hp1 (An @hp2 (An @hql qCP1.1))) trivial ?_;refine Za (k+1) ⟨by omega,by omega,by rw[dedT,if_neg hne,hkd,take_ext (by omega)]⟩ (by omega) (by refine Le.of (τ:=[]) (ν:=[]) (by kernel_rfl) ?_ ?_<;>((refine Lw (An @hp1 (An @hp2 (An @hql qCP1.1))) ?_;try exact ⟨⟩);try omega))
  .obtain rfl:k=N:=by omega
   have e:r=l:=by rw[<-hr,hkd];exact List.take_of_length_le (by omega)
   subst e;refine Wo (Own.mk (f:=(oF [0]))) (An @hp1 (An @hp2 (An @hql qCP1.1))) trivial ?_;refine Fs @results40 ?_;refine ⟨[0],[],[],by kernel_rfl,?_,?_⟩<;>((refine Lw (An @hp1 (An @hp2 (An @hql qCP1.1))) ?_;try exact ⟨⟩);try omega)
   all_goals (rw[padN,hN,Nat.sub_self];simp)
end Eng
end Go.Proofs.YtgenjpingdkmgaaGreatDoor
