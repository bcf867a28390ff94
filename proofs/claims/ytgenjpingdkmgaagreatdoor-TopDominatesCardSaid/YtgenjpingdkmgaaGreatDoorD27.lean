/- Contracts of functions that this seat's law calls. No condition. -/
import Derived.Shelf.Strings.OnBuilder
import Derived.Test.YtgenjpingdkmgaaGreatDoorD26
set_option maxRecDepth 100000
set_option linter.unusedSimpArgs false
set_option linter.unusedVariables false
open Go.Proofs.Tryz
namespace Go.Proofs.YtgenjpingdkmgaaGreatDoor
namespace Eng
theorem er_len {α:Type} {l:List α} {i:Nat} (h:i<l.length):(l.eraseIdx i).length=i+(l.length - (i+1)):=by rw[List.length_eraseIdx_of_lt h];omega
theorem er_row {α β:Type} (f:α->β) (l:List α) (i:Nat):(l.eraseIdx i).map f=List.take i (List.take i (l.map f))++List.drop (i+1) (l.map f):=by
 rw[List.take_take,Nat.min_self,List.eraseIdx_eq_take_drop_succ,<-List.map_take,<-List.map_drop,List.map_append]
theorem rows8t (l:List Ord) (i:Nat):(∀r,r∈List.take i (NO.oR l)->r.length=8)=True:=eq_true fun r h=>by
 obtain ⟨o,_,rfl⟩:=List.mem_map.1 (List.mem_of_mem_take h);rfl
theorem rows8d (l:List Ord) (i:Nat):(∀r,r∈List.drop i (NO.oR l)->r.length=8)=True:=eq_true fun r h=>by
 obtain ⟨o,_,rfl⟩:=List.mem_map.1 (List.mem_of_mem_drop h);rfl
theorem rows1t (l:List ByteArray) (i:Nat):(∀r,r∈List.take i (sR l)->r.length=1)=True:=eq_true fun r h=>by
 obtain ⟨o,_,rfl⟩:=List.mem_map.1 (List.mem_of_mem_take h);rfl
theorem rows1d (l:List ByteArray) (i:Nat):(∀r,r∈List.drop i (sR l)->r.length=1)=True:=eq_true fun r h=>by
 obtain ⟨o,_,rfl⟩:=List.mem_map.1 (List.mem_of_mem_drop h);rfl
theorem le_tk {l:List Ord} {s:List ByteArray}:(NO.oR l=List.take l.length (NO.oR l)/\l.length<=(NO.oR l).length)/\sR s=List.take s.length (sR s)/\s.length<=(sR s).length :=
 ⟨⟨(List.take_of_length_le (by simp)).symm,by simp⟩,(List.take_of_length_le (by simp)).symm,by simp⟩
abbrev mP (m:Mkt) (i:Nat):List C:=[.v (.s 8 (vR m.g.vens)),.v (.s 6 (NA.lR m.g.lims)),.v (vB m.g.kill),.v (vI m.g.now),.v (vI m.g.pat),.v (NO.osV m.b.ords),.v (fsV m.b.fills),.v (ssV m.b.ids),.v (vI m.b.clock),.v (vI m.b.bad),.o i m.log.length,.v (vI m.heard),.v (vI m.now),.v (NO.osV m.sent),.v (ssV m.olds)]
def qVF1:=PLift.up (An @mkI_0 (An @mkI_1 (An @mkI_2 (An @mkI_3 (An @NO.Ze (An @Zh (An @rows8t (An @rows8d (An @rows1t (An @rows1d (An @List.length_take.{0} (An @List.length_drop.{0} (An @List.length_map.{0,0} (An @tl85 (An @tl86 @tl88)))))))))))))))
set_option maxHeartbeats 1000000 in
theorem mtake_c (m:Mkt) (i:Nat) (hb:bkP m.b) (hi:i<m.sent.length) (hol:m.olds.length=m.sent.length) (h:m.log.length<=1000) (hsl:m.sent.length<=1000) :
 ACall prog 66 (mkI m) [.p 0 0,I i] (.t []) (mkO (takeM m i)):=by
 have hexec:=xmake_c m (m.sent.getD i default) 1 (m.sent.getD i default).qty h;obtain ⟨r,hr⟩:∃r,tellM m (takeX m i)=r:=⟨_,rfl⟩
 have htell:=tell_c m (takeX m i) hb h r hr
 have hm:r.1.sent=m.sent/\r.1.olds=m.olds:=by
  rw[<-hr];unfold tellM;split<;>exact ⟨rfl,rfl⟩
 unfold takeM;rw[hr]
 have hq:(noneB (m.olds.getD i default)=true->takeX m i=execS m (m.sent.getD i default) 1 (m.sent.getD i default).qty)/\(noneB (m.olds.getD i default)=false->takeX m i={ execS m (m.sent.getD i default) 4 (m.sent.getD i default).qty with ref:=m.olds.getD i default }):=by
  unfold takeX;constructor<;>intro k<;>rw[k]<;>rfl
 clear hr;obtain ⟨m2,ok⟩:=r;dsimp only at htell hm ⊢;obtain ⟨m2g,m2b,m2log,m2h,m2n,m2s,m2o⟩:=m2;obtain ⟨rfl,rfl⟩:=hm;obtain ⟨o,ho⟩:∃o,m.sent.getD i default=o:=⟨_,rfl⟩
 obtain ⟨s,hs⟩:∃s,m.olds.getD i default=s:=⟨_,rfl⟩
 rw[ho,hs]at hq;rw[ho]at hexec;have hiol:i<m.olds.length:=by omega
 have hm1:min i m.sent.length=i:=by omega
 have hm2:min i m.olds.length=i:=by omega
 have hm3:((i:Int)+1).toNat=i+1:=by omega
 refine Ac func66 ?_;refine Wk (An @hm1 (An @hm2 (An @hm3 (An @ho (An @hs qVF1.1))))) (An @hexec @htell) ?_;refine Cb ?_ ?_<;>intro hc<;>(try exact ⟨⟩)
 .rw[hq.2 (by unfold noneB;simpa using hc)]at htell
  cases ok with
  | true =>
   refine Wk (An @hm1 (An @hm2 (An @hm3 (An @ho (An @hs qVF1.1))))) (An @hexec @htell) ?_;refine Cb ?_ ?_<;>intro hc<;>(try exact ⟨⟩)
   .refine AWp.freeze [2116] ?_;refine AWp.le (st2:=mkSt [(0,.p 0 0),(1,I i)] [(0,.loc (mP ⟨m2g,m2b,m2log,m2h,m2n,m.sent,m.olds⟩ 4)),(1,.gone),(2,.gone),(3,.gone),(4,.row 10 (xR m2log))] 5) (by refine Le.of (τ:=[(4,2116)]) (ν:=[]) (by kernel_rfl) ?_ ?_<;>((refine Lw (An @hm1 (An @hm2 (An @hm3 (An @ho (An @hs qVF1.1))))) ?_;try exact ⟨⟩);try (first|omega|rfl|exact le_tk))) ?_;refine Wk (An @hm1 (An @hm2 (An @hm3 (An @ho (An @hs qVF1.1))))) (An @hexec @htell) ?_;refine Fs @results66 ?_;refine ⟨[0,4,1029,2309],[(4,4),(5,1029),(6,2309)],[],by kernel_rfl,?_,?_⟩<;>((refine Lw (An @hm1 (An @hm2 (An @hm3 (An @ho (An @hs qVF1.1))))) ?_;try exact ⟨⟩);try (first|omega|rfl|exact ⟨⟨er_len hi,er_len hiol⟩,er_row _ _ _,er_row _ _ _⟩))
   .contradiction
  | false =>
   refine Wk (An @hm1 (An @hm2 (An @hm3 (An @ho (An @hs qVF1.1))))) (An @hexec @htell) ?_;refine Cb ?_ ?_<;>intro hc<;>(try exact ⟨⟩)
   .contradiction
   .refine Wk (An @hm1 (An @hm2 (An @hm3 (An @ho (An @hs qVF1.1))))) (An @hexec @htell) ?_;refine Fs @results66 ?_;refine ⟨[0,2116,2117,2118],[(4,2116),(5,2117),(6,2118)],[],by kernel_rfl,?_,?_⟩<;>((refine Lw (An @hm1 (An @hm2 (An @hm3 (An @ho (An @hs qVF1.1))))) ?_;try exact ⟨⟩);try (first|omega|rfl))
 .rw[hq.1 (by unfold noneB;simpa using hc)]at htell
  cases ok with
  | true =>
   refine Wk (An @hm1 (An @hm2 (An @hm3 (An @ho (An @hs qVF1.1))))) (An @hexec @htell) ?_;refine Cb ?_ ?_<;>intro hc<;>(try exact ⟨⟩)
   .refine AWp.freeze [1796] ?_;refine AWp.le (st2:=mkSt [(0,.p 0 0),(1,I i)] [(0,.loc (mP ⟨m2g,m2b,m2log,m2h,m2n,m.sent,m.olds⟩ 4)),(1,.gone),(2,.gone),(3,.gone),(4,.row 10 (xR m2log))] 5) (by refine Le.of (τ:=[(4,1796)]) (ν:=[]) (by kernel_rfl) ?_ ?_<;>((refine Lw (An @hm1 (An @hm2 (An @hm3 (An @ho (An @hs qVF1.1))))) ?_;try exact ⟨⟩);try (first|omega|rfl|exact le_tk))) ?_;refine Wk (An @hm1 (An @hm2 (An @hm3 (An @ho (An @hs qVF1.1))))) (An @hexec @htell) ?_;refine Fs @results66 ?_;refine ⟨[0,4,1029,2309],[(4,4),(5,1029),(6,2309)],[],by kernel_rfl,?_,?_⟩<;>((refine Lw (An @hm1 (An @hm2 (An @hm3 (An @ho (An @hs qVF1.1))))) ?_;try exact ⟨⟩);try (first|omega|rfl|exact ⟨⟨er_len hi,er_len hiol⟩,er_row _ _ _,er_row _ _ _⟩))
   .contradiction
  | false =>
   refine Wk (An @hm1 (An @hm2 (An @hm3 (An @ho (An @hs qVF1.1))))) (An @hexec @htell) ?_;refine Cb ?_ ?_<;>intro hc<;>(try exact ⟨⟩)
   .contradiction
   .refine Wk (An @hm1 (An @hm2 (An @hm3 (An @ho (An @hs qVF1.1))))) (An @hexec @htell) ?_;refine Fs @results66 ?_;refine ⟨[0,1796,1797,1798],[(4,1796),(5,1797),(6,1798)],[],by kernel_rfl,?_,?_⟩<;>((refine Lw (An @hm1 (An @hm2 (An @hm3 (An @ho (An @hs qVF1.1))))) ?_;try exact ⟨⟩);try (first|omega|rfl))
def qVG1:=PLift.up (An @mkI_0 (An @mkI_1 (An @mkI_2 (An @mkI_3 (An @tl85 (An @tl86 @tl88))))))
theorem mamend_c (m:Mkt) (f:Fil) (q:Int) (bust:Bool) (hb:bkP m.b) (h:m.log.length<=1000) (hf:0<=f.qty/\f.qty<=1099511627776) (hq:0<=q/\q<=255) :
 ACall prog 69 (mkI m) [.p 0 0,fD f,I q,B bust] (.t []) (mkO (tellM m (amendX m f q bust)).1):=by
 have hexec:=xmake_c m ⟨f.ord,f.acc,f.sym,f.buy,0,f.price,0,false⟩ 8 (if f.qty - q>0 then f.qty - q else 0) h;obtain ⟨r,hr⟩:∃r,tellM m (amendX m f q bust)=r:=⟨_,rfl⟩
 have htell:=tell_c m (amendX m f q bust) hb h r hr;have hw1:=Zi (f.qty - q) (by omega) (by omega);rw[hr];clear hr;cases bust
 .refine Ac func69 ?_;refine Wk (An @hw1 qVG1.1) (An @hexec @htell) ?_;refine Cb ?_ ?_<;>intro hc<;>(try exact ⟨⟩)
  .contradiction
  .refine Wk (An @hw1 qVG1.1) (An @hexec @htell) ?_;refine Fs @results69 ?_;refine ⟨[0,1988,1989,1990],[(4,1988),(5,1989),(6,1990)],[],by kernel_rfl,?_,?_⟩<;>((refine Lw (An @hw1 qVG1.1) ?_;try exact ⟨⟩);try (first|omega|rfl))
 .refine Ac func69 ?_;refine Wk (An @hw1 qVG1.1) (An @hexec @htell) ?_;refine Cb ?_ ?_<;>intro hc<;>(try exact ⟨⟩)
  .refine Wk (An @hw1 qVG1.1) (An @hexec @htell) ?_;refine Fs @results69 ?_;refine ⟨[0,2116,2117,2118],[(4,2116),(5,2117),(6,2118)],[],by kernel_rfl,?_,?_⟩<;>((refine Lw (An @hw1 qVG1.1) ?_;try exact ⟨⟩);try (first|omega|rfl))
  .contradiction
abbrev vU (n:Nat):V:=.x (.int .u8 (n:Int))
abbrev tC (t:Trd):List C:=[.v (vU t.kind),.v (vU t.at_),.v (vU t.qty),.v (vS t.o.id),.v (vS t.o.acc),.v (vS t.o.sym),.v (vB t.o.buy),.v (vI t.o.qty),.v (vI t.o.price),.v (vI t.o.done),.v (vB t.o.op)]
abbrev tD (t:Trd):D:=.e (.a (tC t))
theorem snoc_ok (l:List Ord) (k:List ByteArray) (o:Ord) (s:ByteArray):((l++[o]).length=l.length+1/\(k++[s]).length=k.length+1)/\NO.oR (l++[o])=NO.oR l++NO.oR [o]/\sR (k++[s])=sR k++sR [s]:=by simp
theorem sent_ok {g:Gat} {r:Gat×Int×Int} (h:(∃o,orderG g 0 o=r)\/∃a b c d,changeG g 0 a b c d=r) (h1:g.vens.length=1):r.1.vens.length=1/\(r.2.2=0->r.2.1=0->0<(r.1.vens.getD 0 default).sent.length):=by
 have hs:∀o,(setV g 0 { vat g 0 with sent:=(vat g 0).sent++[o] }).vens.length=1/\0<((setV g 0 { vat g 0 with sent:=(vat g 0).sent++[o] }).vens.getD 0 default).sent.length:=fun o=>by
  refine ⟨by show (g.vens.set _ _).length=1;rw[List.length_set];exact h1,?_⟩;have:=vat_set (v:={ vat g 0 with sent:=(vat g 0).sent++[o] }) h1;show 0<(vat (setV g 0 _) 0).sent.length;rw[this];simp
 rcases h with ⟨o,rfl⟩|⟨a,b,c,d,rfl⟩
 .unfold orderG
  split
  .exact ⟨h1,fun h=>by cases h⟩
  .split
   .exact ⟨h1,fun h=>by cases h⟩
   .split
    .rename_i c;exact ⟨h1,fun _ h=>absurd h c⟩
    .exact ⟨(hs _).1,fun _ _=>(hs _).2⟩
 .unfold changeG
  split
  .exact ⟨h1,fun h=>by cases h⟩
  .split
   .exact ⟨h1,fun h=>by cases h⟩
   .split
    .exact ⟨h1,fun h=>by cases h⟩
    .split
     .exact ⟨h1,fun h=>by cases h⟩
     .split
      .rename_i c;exact ⟨h1,fun _ h=>absurd h c⟩
      .exact ⟨(hs _).1,fun _ _=>(hs _).2⟩
theorem len_ok {g:Gat} (h:gatP g) (h1:g.vens.length=1):(g.vens.getD 0 default).sent.length<=64:=by
 have:=(h.vens _ (Yf (show 0<g.vens.length by omega))).room;omega
def qVH1:=PLift.up (An @mkI_0 (An @mkI_1 (An @mkI_2 (An @mkI_3 (An @NO.Ze (An @getD_vR (An @tl83 (An @tl85 (An @tl86 (An @tl88 @tl90))))))))))
theorem mclient_c (m:Mkt) (t:Trd) (hat:t.at_<=255) (hg:gatP m.g) (h1:m.g.vens.length=1) (hsl:m.sent.length<=1000) (hol:m.olds.length=m.sent.length) :
 ACall prog 70 (mkI m) [.p 0 0,tD t] (.t []) (mkO (clientM m t)):=by
 have hk:((t.kind:Int)).tmod 10=((t.kind % 10:Nat):Int):=rfl;have hk3:=Zi (t.at_:Int) (by omega) (by omega);by_cases h6:t.kind % 10=6
 .obtain ⟨r,hr⟩:∃r,orderG m.g 0 t.o=r:=⟨_,rfl⟩
  have hord:=order_c m.g 0 t.o hg r hr;have hok:=sent_ok (.inl ⟨t.o,hr⟩) h1;unfold clientM;rw[if_pos h6,hr];have hk2:True:=trivial;have hg2:gatP r.1:=hr ▸ order_right hg;clear hr;obtain ⟨g2,w,e⟩:=r;obtain ⟨hv,hs⟩:=hok;dsimp only at hord hv hs hg2 ⊢;unfold sendM lastS;dsimp only;refine Ac func70 ?_;refine Wk (An @hk (An @hk2 (An @hk3 qVH1.1))) @hord ?_;refine Cb ?_ ?_<;>intro hc<;>(try exact ⟨⟩)
  .refine Wk (An @hk (An @hk2 (An @hk3 qVH1.1))) @hord ?_;refine Cb ?_ ?_<;>intro hc<;>(try exact ⟨⟩)
   .obtain ⟨rfl,rfl⟩:=hc;have hs:=hs rfl rfl;have hl:=len_ok hg2 hv;have hw1:=Zi (((g2.vens.getD 0 default).sent.length:Int) - 1) (by omega) (by omega);have hw2:(((g2.vens.getD 0 default).sent.length:Int) - 1).toNat=(g2.vens.getD 0 default).sent.length - 1:=by omega
    rw[if_pos ⟨rfl,rfl⟩];refine Wk (An @hk (An @hk2 (An @hk3 (An @hw1 (An @hw2 qVH1.1))))) @hord ?_;refine Fs @results70 ?_;refine ⟨[0,1,2948,3588],[(4,1),(5,2948),(6,3588)],[],by kernel_rfl,?_,?_⟩<;>((refine Lw (An @hk (An @hk2 (An @hk3 (An @hw1 (An @hw2 qVH1.1))))) ?_;try exact ⟨⟩);try (first|omega|rfl|exact snoc_ok _ _ _ _))
   .rw[if_neg (by omega)];refine Wk (An @hk (An @hk2 (An @hk3 qVH1.1))) @hord ?_;refine Fs @results70 ?_;refine ⟨[0,1,2,3],[(4,1),(5,2),(6,3)],[],by kernel_rfl,?_,?_⟩<;>((refine Lw (An @hk (An @hk2 (An @hk3 qVH1.1))) ?_;try exact ⟨⟩);try (first|omega|rfl))
  .omega
 .unfold clientM;rw[if_neg h6];by_cases h0:(vat m.g 0).bk.ords.length=0
  .rw[if_pos h0];have h0:(m.g.vens.getD 0 default).bk.ords.length=0:=h0;have hk2:True:=trivial;refine Ac func70 ?_;refine Wk (An @hk (An @hk2 (An @hk3 qVH1.1))) trivial ?_;refine Cb ?_ ?_<;>intro hc<;>(try exact ⟨⟩)
   .omega
   .refine Wk (An @hk (An @hk2 (An @hk3 qVH1.1))) trivial ?_;refine Cb ?_ ?_<;>intro hc<;>(try exact ⟨⟩)
    .refine Wk (An @hk (An @hk2 (An @hk3 qVH1.1))) trivial ?_;refine Fs @results70 ?_;refine ⟨[0,1,2,3],[(4,1),(5,2),(6,3)],[],by kernel_rfl,?_,?_⟩<;>((refine Lw (An @hk (An @hk2 (An @hk3 qVH1.1))) ?_;try exact ⟨⟩);try (first|omega|rfl))
    .omega
  .rw[if_neg h0];have h0:¬(m.g.vens.getD 0 default).bk.ords.length=0:=h0;show ACall _ _ _ _ _ (mkO (sendM m (changeG m.g 0 ((m.g.vens.getD 0 default).bk.ords.getD (t.at_ % (m.g.vens.getD 0 default).bk.ords.length) default).id t.o.id t.o.qty t.o.price) ((m.g.vens.getD 0 default).bk.ords.getD (t.at_ % (m.g.vens.getD 0 default).bk.ords.length) default).id));have hk2:((t.at_:Int)).tmod ((m.g.vens.getD 0 default).bk.ords.length:Int)=((t.at_ % (m.g.vens.getD 0 default).bk.ords.length:Nat):Int):=rfl;have hlt:t.at_ % (m.g.vens.getD 0 default).bk.ords.length<(m.g.vens.getD 0 default).bk.ords.length:=Nat.mod_lt _ (by omega);generalize hi:t.at_ % (m.g.vens.getD 0 default).bk.ords.length=i at hk2 hlt;obtain ⟨r,hr⟩:∃r,changeG m.g 0 ((m.g.vens.getD 0 default).bk.ords.getD i default).id t.o.id t.o.qty t.o.price=r:=⟨_,rfl⟩
   have hchg:=change_c m.g 0 _ t.o.id t.o.qty t.o.price hg r hr;have hok:=sent_ok (.inr ⟨_,_,_,_,hr⟩) h1;have hg2:gatP r.1:=hr ▸ change_right hg;rw[hr];clear hr;obtain ⟨g2,w,e⟩:=r;obtain ⟨hv,hs⟩:=hok;dsimp only at hchg hv hs hg2 ⊢;unfold sendM lastS;dsimp only;refine Ac func70 ?_;refine Wk (An @hk (An @hk2 (An @hk3 qVH1.1))) @hchg ?_;refine Cb ?_ ?_<;>intro hc<;>(try exact ⟨⟩)
   .omega
   .refine Wk (An @hk (An @hk2 (An @hk3 qVH1.1))) @hchg ?_;refine Cb ?_ ?_<;>intro hc<;>(try exact ⟨⟩)
    .omega
    .refine Wk (An @hk (An @hk2 (An @hk3 qVH1.1))) @hchg ?_;refine Cb ?_ ?_<;>intro hc<;>(try exact ⟨⟩)
     .obtain ⟨rfl,rfl⟩:=hc;have hs:=hs rfl rfl;have hl:=len_ok hg2 hv;have hw1:=Zi (((g2.vens.getD 0 default).sent.length:Int) - 1) (by omega) (by omega);have hw2:(((g2.vens.getD 0 default).sent.length:Int) - 1).toNat=(g2.vens.getD 0 default).sent.length - 1:=by omega
      rw[if_pos ⟨rfl,rfl⟩];refine Wk (An @hk (An @hk2 (An @hk3 (An @hw1 (An @hw2 qVH1.1))))) @hchg ?_;refine Fs @results70 ?_;refine ⟨[0,1,4996,5700],[(4,1),(5,4996),(6,5700)],[],by kernel_rfl,?_,?_⟩<;>((refine Lw (An @hk (An @hk2 (An @hk3 (An @hw1 (An @hw2 qVH1.1))))) ?_;try exact ⟨⟩);try (first|omega|rfl|exact snoc_ok _ _ _ _))
     .rw[if_neg (by omega)];refine Wk (An @hk (An @hk2 (An @hk3 qVH1.1))) @hchg ?_;refine Fs @results70 ?_;refine ⟨[0,1,2,3],[(4,1),(5,2),(6,3)],[],by kernel_rfl,?_,?_⟩<;>((refine Lw (An @hk (An @hk2 (An @hk3 qVH1.1))) ?_;try exact ⟨⟩);try (first|omega|rfl))
abbrev xV (x:Exe):List V:=[vS x.id,vS x.ref,vS x.ord,vS x.acc,vS x.sym,vI x.kind,vB x.buy,vI x.qty,vI x.price,vI x.time]
abbrev xsD (l:List Exe):D:=.e (.c (.v (.s 10 (xR l))))
theorem getD_xR (l:List Exe) (i:Nat) (d:List V) (h:i<l.length):(l.map fun x=>[vS x.id,vS x.ref,vS x.ord,vS x.acc,vS x.sym,vI x.kind,vB x.buy,vI x.qty,vI x.price,vI x.time]).getD i d=xV (l.getD i default):=by
 simp[List.getD_eq_getElem?_getD,h]
def qVJ1:=PLift.up (An @getD_xR (An @tl86 @tl88))
theorem fault_c (l:List Exe) (bE:Bk) (hn:l.length<=1000) (hl:logP ⟨[],[],[],0,0⟩ l bE):ACall prog 76 [] [xsD l] (.t [.c (.v (vI l.length)),.c (.v (vI 0))]) []:=by
 refine Ac func76 ?_;refine Wk qVJ1.1 trivial ?_
 refine AWp.loop (fun s:Nat×Bk=>mkSt [(0,xsD l),(2,I 0),(3,I 0),(4,.p 0 0),(9,xsD l),(10,I l.length),(11,I s.1)] [(0,.loc (bkC s.2))] 1)
  (fun s=>s.1<=l.length/\bkP s.2/\logP s.2 (l.drop s.1) bE) (fun s=>l.length - s.1) (0,⟨[],[],[],0,0⟩) ⟨Nat.zero_le _,bk0,hl⟩ (by refine Le.of (τ:=[(0,128)]) (ν:=[]) (by kernel_rfl) ?_ ?_<;>((refine Lw qVJ1.1 ?_;try exact ⟨⟩);try (first|omega|rfl|exact ⟨⟨rfl,rfl⟩,⟨rfl,rfl⟩,⟨rfl,rfl⟩⟩))) fun s hs=>?_
 obtain ⟨i,b⟩:=s;obtain ⟨hi,hb,hlog⟩:=hs;dsimp only at hi hb hlog ⊢;refine Wk qVJ1.1 trivial ?_;refine Cb ?_ ?_<;>intro hc<;>(try exact ⟨⟩)
 .have hil:i<l.length:=by omega
  rw[List.drop_eq_getElem_cons hil]at hlog;have e:l[i]=l.getD i default:=by rw[List.getD_eq_getElem?_getD,List.getElem?_eq_getElem hil];rfl
  rw[e]at hlog;obtain ⟨x,hx⟩:∃x,l.getD i default=x:=⟨_,rfl⟩
  rw[hx]at hlog;obtain ⟨⟨h1,h2⟩,h3⟩:=hlog;have hx0:=hx;have hex:=exec_c x true h1;have hcome:=come_c b x hb _ rfl;unfold comeS at hcome;rw[if_pos h1]at hcome;have hb2:=take_right hb (exB_exP h1);obtain ⟨⟨b2,w⟩,hT⟩:∃y,takeS b x=y:=⟨_,rfl⟩
  rw[hT]at hcome h2 h3 hb2;dsimp only at hcome h2 h3 hb2;subst h2;refine Wk (An @hx0 qVJ1.1) (An @hex @hcome) ?_;refine Cb ?_ ?_<;>intro hc<;>(try exact ⟨⟩)
  .contradiction
  .refine Wk (An @hx0 qVJ1.1) (An @hex @hcome) ?_;refine Cb ?_ ?_<;>intro hc<;>(try exact ⟨⟩)
   .refine Wk (An @hx0 qVJ1.1) (An @hex @hcome) ?_;refine Za (i+1,b2) ⟨by dsimp only;omega,hb2,h3⟩ (by dsimp only;omega) (by refine Le.of (τ:=[]) (ν:=[]) (by kernel_rfl) ?_ ?_<;>((refine Lw (An @hx0 qVJ1.1) ?_;try exact ⟨⟩);try omega))
   .contradiction
 .obtain rfl:i=l.length:=by omega
  refine Wk qVJ1.1 trivial ?_;refine Fn @results76 qVJ1.1 ?_;try exact ⟨⟩
theorem keeps_c (l:List Exe) (bE:Bk) (hn:l.length<=1000) (hl:logP ⟨[],[],[],0,0⟩ l bE):ACall prog 27 [] [xsD l] (B true) []:=by
 have hf:=fault_c l bE hn hl;refine Ac func27 ?_;refine Wk qVJ1.1 @hf ?_;refine Fn @results27 qVJ1.1 ?_;try exact ⟨⟩
theorem dN (m:Mkt) (t:Trd) {N:Nat} {c:Code} {Q:Exit->St->Prop} {st:St}
 (h:Le 4 (ren []) [] st (mkSt [(0,.p 0 0),(3,.p 4 0)] [(0,.loc (mC m 1 2 3)),(1,.row 10 (xR m.log)),(2,.row 8 (NO.oR m.sent)),(3,.row 1 (sR m.olds)),(4,.loc (tC t))] 5))
 (k:AWp prog N 4 c Q (mkSt [(0,.p 0 0),(3,.p 4 0)] [(0,.loc (mC m 1 2 3)),(1,.row 10 (xR m.log)),(2,.row 8 (NO.oR m.sent)),(3,.row 1 (sR m.olds)),(4,.loc (tC t))] 5)):AWp prog N 4 c Q st:=AWp.le h k
def qVI1:=PLift.up (An @mkI_0 (An @mkI_1 (An @mkI_2 (An @mkI_3 (An @NO.Ze (An @Z1 (An @getD_xR (An @tl83 (An @tl85 (An @tl86 (An @tl88 @tl90)))))))))))
theorem mdo_take (m:Mkt) (t:Trd) (n:Nat) (h:mktP m n) (hn:n<=100) (hat:t.at_<=255) (k0:t.kind % 10=0\/t.kind % 10=5):ACall prog 24 (mkI m) [.p 0 0,tD t] (.t []) (mkO (doM m t)):=by
 obtain ⟨hb,hsr⟩:=mkt_bk h;have hlen:=h.len;have hk:((t.kind:Int)).tmod 10=((t.kind % 10:Nat):Int):=rfl;have hw1:=Zi (t.at_:Int) (by omega) (by omega);unfold doM;rw[if_pos k0];by_cases hs:0<m.sent.length
 .rw[if_pos hs];have hlt:=Nat.mod_lt t.at_ hs;have hm:(t.at_:Int).tmod (m.sent.length:Int)=((t.at_ % m.sent.length:Nat):Int):=rfl;generalize t.at_ % m.sent.length=i at hm hlt;have htake:=mtake_c m i hb hlt h.olds (by omega) (by omega);refine Ac func24 ?_
  iterate 2 (all_goals (refine Wk (An @hk (An @hm (An @hw1 qVI1.1))) @htake ?_);all_goals (refine Cb ?_ ?_<;>intro hc<;>(try exact ⟨⟩));all_goals (try (exfalso;omega)))
  all_goals (refine dN m t (by refine Le.of (by kernel_rfl) ?_ ?_<;>((refine Lw (An @hk (An @hm (An @hw1 qVI1.1))) ?_;try exact ⟨⟩);try (first|omega|rfl))) ?_)
  all_goals (refine Wk (An @hk (An @hm (An @hw1 qVI1.1))) @htake ?_)
  all_goals (refine Cb ?_ ?_<;>intro hc<;>(try exact ⟨⟩))
  all_goals (try (exfalso;omega))
  all_goals (refine Wk (An @hk (An @hm (An @hw1 qVI1.1))) @htake ?_)
  all_goals (refine Fs @results24 ?_)
  all_goals (refine ⟨[0,1029,1030,1031],[(4,1029),(5,1030),(6,1031)],[],by kernel_rfl,?_,?_⟩<;>((refine Lw (An @hk (An @hm (An @hw1 qVI1.1))) ?_;try exact ⟨⟩);try (first|omega|rfl)))
 .rw[if_neg hs];refine Ac func24 ?_
  iterate 2 (all_goals (refine Wk (An @hk (An @hw1 qVI1.1)) trivial ?_);all_goals (refine Cb ?_ ?_<;>intro hc<;>(try exact ⟨⟩));all_goals (try (exfalso;omega)))
  all_goals (refine dN m t (by refine Le.of (by kernel_rfl) ?_ ?_<;>((refine Lw (An @hk (An @hw1 qVI1.1)) ?_;try exact ⟨⟩);try (first|omega|rfl))) ?_)
  all_goals (refine Wk (An @hk (An @hw1 qVI1.1)) trivial ?_)
  all_goals (refine Cb ?_ ?_<;>intro hc<;>(try exact ⟨⟩))
  all_goals (try (exfalso;omega))
  all_goals (refine Wk (An @hk (An @hw1 qVI1.1)) trivial ?_)
  all_goals (refine Fs @results24 ?_)
  all_goals (refine ⟨[0,1,2,3],[(4,1),(5,2),(6,3)],[],by kernel_rfl,?_,?_⟩<;>((refine Lw (An @hk (An @hw1 qVI1.1)) ?_;try exact ⟨⟩);try (first|omega|rfl)))
theorem mdo_exec (m:Mkt) (t:Trd) (n:Nat) (h:mktP m n) (hn:n<=100) (hat:t.at_<=255) (hqt:t.qty<=255) (k1:t.kind % 10=1\/t.kind % 10=2):ACall prog 24 (mkI m) [.p 0 0,tD t] (.t []) (mkO (doM m t)):=by
 obtain ⟨hb,hsr⟩:=mkt_bk h;have hlen:=h.len;have hk:((t.kind:Int)).tmod 10=((t.kind % 10:Nat):Int):=rfl;have hol:=(NO.Zq.1 hb.ords).1;have hw1:=Zi (t.at_:Int) (by omega) (by omega);have hw2:=Zi (t.qty:Int) (by omega) (by omega);unfold doM;rw[if_neg (by omega),if_pos k1];by_cases hs:0<m.b.ords.length
 .rw[if_pos hs];have hlt:=Nat.mod_lt t.at_ hs;have hm:(t.at_:Int).tmod (m.b.ords.length:Int)=((t.at_ % m.b.ords.length:Nat):Int):=rfl;generalize t.at_ % m.b.ords.length=i at hm hlt;obtain ⟨o,ho⟩:∃o,m.b.ords.getD i default=o:=⟨_,rfl⟩
  rw[ho];obtain ⟨kx,qx,hkx,hqx⟩:∃kx qx:Int,kx=(if t.kind % 10=1 then 2 else 3)/\qx=(if t.kind % 10=1 then (t.qty:Int) else 0):=⟨_,_,rfl,rfl⟩
  have hexec:=xmake_c m o kx qx (by omega);obtain ⟨r,hr⟩:∃r,tellM m (execS m o kx qx)=r:=⟨_,rfl⟩
  have htell:=tell_c m (execS m o kx qx) hb (by omega) r hr
  have e:(tellM m (if t.kind % 10=1 then execS m o 2 t.qty else execS m o 3 0)).1=r.1:=by
   rw[<-hr,hkx,hqx];split<;>rfl
  rw[e];clear e hr;rcases k1 with k1|k1
  .rw[if_pos k1]at hkx hqx;subst hkx hqx;refine Ac func24 ?_
   iterate 4 (all_goals (refine Wk (An @hk (An @hm (An @hw1 (An @hw2 (An @ho qVI1.1))))) (An @hexec @htell) ?_);all_goals (refine Cb ?_ ?_<;>intro hc<;>(try exact ⟨⟩));all_goals (try (exfalso;omega)))
   all_goals (refine dN m t (by refine Le.of (by kernel_rfl) ?_ ?_<;>((refine Lw (An @hk (An @hm (An @hw1 (An @hw2 (An @ho qVI1.1))))) ?_;try exact ⟨⟩);try (first|omega|rfl))) ?_)
   all_goals (refine Wk (An @hk (An @hm (An @hw1 (An @hw2 (An @ho qVI1.1))))) (An @hexec @htell) ?_)
   all_goals (refine Cb ?_ ?_<;>intro hc<;>(try exact ⟨⟩))
   all_goals (try (exfalso;omega))
   all_goals (refine Wk (An @hk (An @hm (An @hw1 (An @hw2 (An @ho qVI1.1))))) (An @hexec @htell) ?_)
   all_goals (refine Cb ?_ ?_<;>intro hc<;>(try exact ⟨⟩))
   all_goals (try (exfalso;omega))
   all_goals (refine Wk (An @hk (An @hm (An @hw1 (An @hw2 (An @ho qVI1.1))))) (An @hexec @htell) ?_)
   all_goals (refine Fs @results24 ?_)
   all_goals (refine ⟨[0,2373,2374,2375],[(4,2373),(5,2374),(6,2375)],[],by kernel_rfl,?_,?_⟩<;>((refine Lw (An @hk (An @hm (An @hw1 (An @hw2 (An @ho qVI1.1))))) ?_;try exact ⟨⟩);try (first|omega|rfl)))
  .rw[if_neg (by omega)]at hkx hqx;subst hkx hqx;refine Ac func24 ?_
   iterate 4 (all_goals (refine Wk (An @hk (An @hm (An @hw1 (An @hw2 (An @ho qVI1.1))))) (An @hexec @htell) ?_);all_goals (refine Cb ?_ ?_<;>intro hc<;>(try exact ⟨⟩));all_goals (try (exfalso;omega)))
   all_goals (refine dN m t (by refine Le.of (by kernel_rfl) ?_ ?_<;>((refine Lw (An @hk (An @hm (An @hw1 (An @hw2 (An @ho qVI1.1))))) ?_;try exact ⟨⟩);try (first|omega|rfl))) ?_)
   all_goals (refine Wk (An @hk (An @hm (An @hw1 (An @hw2 (An @ho qVI1.1))))) (An @hexec @htell) ?_)
   all_goals (refine Cb ?_ ?_<;>intro hc<;>(try exact ⟨⟩))
   all_goals (try (exfalso;omega))
   all_goals (refine Wk (An @hk (An @hm (An @hw1 (An @hw2 (An @ho qVI1.1))))) (An @hexec @htell) ?_)
   all_goals (refine Cb ?_ ?_<;>intro hc<;>(try exact ⟨⟩))
   all_goals (try (exfalso;omega))
   all_goals (refine Wk (An @hk (An @hm (An @hw1 (An @hw2 (An @ho qVI1.1))))) (An @hexec @htell) ?_)
   all_goals (refine Fs @results24 ?_)
   all_goals (refine ⟨[0,2181,2182,2183],[(4,2181),(5,2182),(6,2183)],[],by kernel_rfl,?_,?_⟩<;>((refine Lw (An @hk (An @hm (An @hw1 (An @hw2 (An @ho qVI1.1))))) ?_;try exact ⟨⟩);try (first|omega|rfl)))
 .rw[if_neg hs];refine Ac func24 ?_
  iterate 4 (all_goals (refine Wk (An @hk (An @hw1 (An @hw2 qVI1.1))) trivial ?_);all_goals (refine Cb ?_ ?_<;>intro hc<;>(try exact ⟨⟩));all_goals (try (exfalso;omega)))
  all_goals (refine dN m t (by refine Le.of (by kernel_rfl) ?_ ?_<;>((refine Lw (An @hk (An @hw1 (An @hw2 qVI1.1))) ?_;try exact ⟨⟩);try (first|omega|rfl))) ?_)
  all_goals (refine Wk (An @hk (An @hw1 (An @hw2 qVI1.1))) trivial ?_)
  all_goals (refine Cb ?_ ?_<;>intro hc<;>(try exact ⟨⟩))
  all_goals (try (exfalso;omega))
  all_goals (refine Wk (An @hk (An @hw1 (An @hw2 qVI1.1))) trivial ?_)
  all_goals (refine Fs @results24 ?_)
  all_goals (refine ⟨[0,1,2,3],[(4,1),(5,2),(6,3)],[],by kernel_rfl,?_,?_⟩<;>((refine Lw (An @hk (An @hw1 (An @hw2 qVI1.1))) ?_;try exact ⟨⟩);try (first|omega|rfl)))
theorem mdo_amend (m:Mkt) (t:Trd) (n:Nat) (h:mktP m n) (hn:n<=100) (hat:t.at_<=255) (hqt:t.qty<=255) (k2:t.kind % 10=3\/t.kind % 10=4):ACall prog 24 (mkI m) [.p 0 0,tD t] (.t []) (mkO (doM m t)):=by
 obtain ⟨hb,hsr⟩:=mkt_bk h;have hlen:=h.len;have hk:((t.kind:Int)).tmod 10=((t.kind % 10:Nat):Int):=rfl;have hfl:=hb.fl;have hw1:=Zi (t.at_:Int) (by omega) (by omega);have hw2:=Zi (t.qty:Int) (by omega) (by omega);unfold doM;rw[if_neg (by omega),if_neg (by omega),if_pos k2];by_cases hs:0<m.b.fills.length
 .rw[if_pos hs];have hlt:=Nat.mod_lt t.at_ hs;have hm:(t.at_:Int).tmod (m.b.fills.length:Int)=((t.at_ % m.b.fills.length:Nat):Int):=rfl;generalize t.at_ % m.b.fills.length=i at hm hlt;have hfq:=amt_rng (hb.fills _ (Yr hlt)).1;obtain ⟨f,ho⟩:∃f,m.b.fills.getD i default=f:=⟨_,rfl⟩
  rw[ho]at hfq ⊢;obtain ⟨bu,hx⟩:∃b,decide (t.kind % 10=3)=b:=⟨_,rfl⟩
  rw[hx];have hamend:=mamend_c m f t.qty bu hb (by omega) hfq (by omega);refine Ac func24 ?_
  iterate 6 (all_goals (refine Wk (An @hk (An @hm (An @hw1 (An @hw2 (An @ho (An @hx qVI1.1)))))) @hamend ?_);all_goals (refine Cb ?_ ?_<;>intro hc<;>(try exact ⟨⟩));all_goals (try (exfalso;omega)))
  all_goals (refine dN m t (by refine Le.of (by kernel_rfl) ?_ ?_<;>((refine Lw (An @hk (An @hm (An @hw1 (An @hw2 (An @ho (An @hx qVI1.1)))))) ?_;try exact ⟨⟩);try (first|omega|rfl))) ?_)
  all_goals (have hw3:(((t.kind % 10:Nat):Int) == 3)=bu:=by rw[<-hx,Bool.eq_iff_iff];simp only[beq_iff_eq,decide_eq_true_eq];omega)
  all_goals (refine Wk (An @hk (An @hm (An @hw1 (An @hw2 (An @hw3 (An @ho (An @hx qVI1.1))))))) @hamend ?_)
  all_goals (refine Cb ?_ ?_<;>intro hc<;>(try exact ⟨⟩))
  all_goals (try (exfalso;omega))
  all_goals (refine Wk (An @hk (An @hm (An @hw1 (An @hw2 (An @hw3 (An @ho (An @hx qVI1.1))))))) @hamend ?_)
  all_goals (refine Fs @results24 ?_)
  all_goals (refine ⟨[0,2053,2054,2055],[(4,2053),(5,2054),(6,2055)],[],by kernel_rfl,?_,?_⟩<;>((refine Lw (An @hk (An @hm (An @hw1 (An @hw2 (An @hw3 (An @ho (An @hx qVI1.1))))))) ?_;try exact ⟨⟩);try (first|omega|rfl)))
 .rw[if_neg hs];refine Ac func24 ?_
  iterate 6 (all_goals (refine Wk (An @hk (An @hw1 (An @hw2 qVI1.1))) trivial ?_);all_goals (refine Cb ?_ ?_<;>intro hc<;>(try exact ⟨⟩));all_goals (try (exfalso;omega)))
  all_goals (refine dN m t (by refine Le.of (by kernel_rfl) ?_ ?_<;>((refine Lw (An @hk (An @hw1 (An @hw2 qVI1.1))) ?_;try exact ⟨⟩);try (first|omega|rfl))) ?_)
  all_goals (refine Wk (An @hk (An @hw1 (An @hw2 qVI1.1))) trivial ?_)
  all_goals (refine Cb ?_ ?_<;>intro hc<;>(try exact ⟨⟩))
  all_goals (try (exfalso;omega))
  all_goals (refine Wk (An @hk (An @hw1 (An @hw2 qVI1.1))) trivial ?_)
  all_goals (refine Fs @results24 ?_)
  all_goals (refine ⟨[0,1,2,3],[(4,1),(5,2),(6,3)],[],by kernel_rfl,?_,?_⟩<;>((refine Lw (An @hk (An @hw1 (An @hw2 qVI1.1))) ?_;try exact ⟨⟩);try (first|omega|rfl)))
theorem mdo_rest (m:Mkt) (t:Trd) (n:Nat) (h:mktP m n) (hn:n<=100) (hat:t.at_<=255) (hqt:t.qty<=255) (k3:t.kind % 10=6\/t.kind % 10=7\/t.kind % 10=8\/t.kind % 10=9):ACall prog 24 (mkI m) [.p 0 0,tD t] (.t []) (mkO (doM m t)):=by
 obtain ⟨hb,hsr⟩:=mkt_bk h;have hlen:=h.len;have hk:((t.kind:Int)).tmod 10=((t.kind % 10:Nat):Int):=rfl;have hnow:=h.now;unfold doM;rw[if_neg (by omega),if_neg (by omega),if_neg (by omega)];by_cases k6:t.kind % 10=6\/t.kind % 10=7
 .rw[if_pos k6];have hclient:=mclient_c m t hat h.gat h.one (by omega) h.olds;refine Ac func24 ?_
  iterate 8 (all_goals (refine Wk (An @hk qVI1.1) @hclient ?_);all_goals (refine Cb ?_ ?_<;>intro hc<;>(try exact ⟨⟩));all_goals (try (exfalso;omega)))
  all_goals (refine dN m t (by refine Le.of (by kernel_rfl) ?_ ?_<;>((refine Lw (An @hk qVI1.1) ?_;try exact ⟨⟩);try (first|omega|rfl))) ?_)
  all_goals (refine Wk (An @hk qVI1.1) @hclient ?_)
  all_goals (refine Fs @results24 ?_)
  all_goals (refine ⟨[0,133,134,135],[(4,133),(5,134),(6,135)],[],by kernel_rfl,?_,?_⟩<;>((refine Lw (An @hk qVI1.1) ?_;try exact ⟨⟩);try (first|omega|rfl)))
 rw[if_neg k6];by_cases k8:t.kind % 10=8
 .rw[if_pos k8];have hm:(t.qty:Int).tmod 8=((t.qty % 8:Nat):Int):=rfl;have hw1:=Zi ((t.qty % 8:Nat):Int) (by omega) (by omega);have hw2:=Zi (m.now+((t.qty % 8:Nat):Int)) (by omega) (by omega);refine Ac func24 ?_
  iterate 9 (all_goals (refine Wk (An @hk (An @hm (An @hw1 (An @hw2 qVI1.1)))) trivial ?_);all_goals (refine Cb ?_ ?_<;>intro hc<;>(try exact ⟨⟩));all_goals (try (exfalso;omega)))
  all_goals (refine dN m t (by refine Le.of (by kernel_rfl) ?_ ?_<;>((refine Lw (An @hk (An @hm (An @hw1 (An @hw2 qVI1.1)))) ?_;try exact ⟨⟩);try (first|omega|rfl))) ?_)
  all_goals (refine Wk (An @hk (An @hm (An @hw1 (An @hw2 qVI1.1)))) trivial ?_)
  all_goals (refine Fs @results24 ?_)
  all_goals (refine ⟨[0,1,2,3],[(4,1),(5,2),(6,3)],[],by kernel_rfl,?_,?_⟩<;>((refine Lw (An @hk (An @hm (An @hw1 (An @hw2 qVI1.1)))) ?_;try exact ⟨⟩);try (first|omega|rfl)))
 rw[if_neg k8];by_cases hs:m.heard<m.log.length
 .rw[if_pos hs];have hw1:=Zi ((m.heard:Int)+1) (by omega) (by omega);obtain ⟨x,hx⟩:∃x,m.log.getD m.heard default=x:=⟨_,rfl⟩
  rw[hx];obtain ⟨r,hr⟩:∃r,toldG m.g 0 x=r:=⟨_,rfl⟩
  have htold:=told_c m.g 0 x h.gat r hr;rw[hr];clear hr;refine Ac func24 ?_
  iterate 9 (all_goals (refine Wk (An @hk (An @hw1 (An @hx qVI1.1))) @htold ?_);all_goals (refine Cb ?_ ?_<;>intro hc<;>(try exact ⟨⟩));all_goals (try (exfalso;omega)))
  all_goals (refine dN m t (by refine Le.of (by kernel_rfl) ?_ ?_<;>((refine Lw (An @hk (An @hw1 (An @hx qVI1.1))) ?_;try exact ⟨⟩);try (first|omega|rfl))) ?_)
  all_goals (refine Wk (An @hk (An @hw1 (An @hx qVI1.1))) @htold ?_)
  all_goals (refine Cb ?_ ?_<;>intro hc<;>(try exact ⟨⟩))
  all_goals (try (exfalso;omega))
  all_goals (refine Wk (An @hk (An @hw1 (An @hx qVI1.1))) @htold ?_)
  all_goals (refine Fs @results24 ?_)
  all_goals (refine ⟨[0,1,2,3],[(4,1),(5,2),(6,3)],[],by kernel_rfl,?_,?_⟩<;>((refine Lw (An @hk (An @hw1 (An @hx qVI1.1))) ?_;try exact ⟨⟩);try (first|omega|rfl)))
 .rw[if_neg hs];refine Ac func24 ?_
  iterate 9 (all_goals (refine Wk (An @hk qVI1.1) trivial ?_);all_goals (refine Cb ?_ ?_<;>intro hc<;>(try exact ⟨⟩));all_goals (try (exfalso;omega)))
  all_goals (refine dN m t (by refine Le.of (by kernel_rfl) ?_ ?_<;>((refine Lw (An @hk qVI1.1) ?_;try exact ⟨⟩);try (first|omega|rfl))) ?_)
  all_goals (refine Wk (An @hk qVI1.1) trivial ?_)
  all_goals (refine Cb ?_ ?_<;>intro hc<;>(try exact ⟨⟩))
  all_goals (try (exfalso;omega))
  all_goals (refine Wk (An @hk qVI1.1) trivial ?_)
  all_goals (refine Fs @results24 ?_)
  all_goals (refine ⟨[0,1,2,3],[(4,1),(5,2),(6,3)],[],by kernel_rfl,?_,?_⟩<;>((refine Lw (An @hk qVI1.1) ?_;try exact ⟨⟩);try (first|omega|rfl)))
theorem mdo_c (m:Mkt) (t:Trd) (n:Nat) (h:mktP m n) (hn:n<=100) (hat:t.at_<=255) (hqt:t.qty<=255):ACall prog 24 (mkI m) [.p 0 0,tD t] (.t []) (mkO (doM m t)):=by
 have:t.kind % 10<10:=Nat.mod_lt _ (by decide);by_cases k0:t.kind % 10=0\/t.kind % 10=5
 .exact mdo_take m t n h hn hat k0
 by_cases k1:t.kind % 10=1\/t.kind % 10=2
 .exact mdo_exec m t n h hn hat hqt k1
 by_cases k2:t.kind % 10=3\/t.kind % 10=4
 .exact mdo_amend m t n h hn hat hqt k2
 .exact mdo_rest m t n h hn hat hqt (by omega)
def qVK1:=PLift.up (An @Z1 (An @Zh @NO.Ze))
theorem eqO_c (l:List Ord) (h:l.length<=1000000):ACall prog 77 [] [NO.osD l,NO.osD l] (B true) []:=by
 refine Ac func77 ?_;refine Wk qVK1.1 trivial ?_;refine Cb ?_ ?_<;>intro hc<;>(try exact ⟨⟩)
 .simp at hc
 .refine Wk qVK1.1 trivial ?_;refine AWp.loop (fun k:Nat=>mkSt [(0,NO.osD l),(1,NO.osD l),(12,I l.length),(13,I k)] [] 0) (fun k=>k<=l.length) (fun k=>l.length - k) 0 (Nat.zero_le _) (by refine Le.of (τ:=[]) (ν:=[]) (by kernel_rfl) ?_ ?_<;>((refine Lw qVK1.1 ?_;try exact ⟨⟩);try omega)) fun k hk=>?_;refine Wk qVK1.1 trivial ?_;refine Cb ?_ ?_<;>intro hc<;>(try exact ⟨⟩)
  .refine Wk qVK1.1 trivial ?_;refine Cb ?_ ?_<;>intro hc<;>(try exact ⟨⟩)
   .simp at hc
   .refine Wk qVK1.1 trivial ?_;refine Za (k+1) (by omega) (by omega) (by refine Le.of (τ:=[]) (ν:=[]) (by kernel_rfl) ?_ ?_<;>((refine Lw qVK1.1 ?_;try exact ⟨⟩);try omega))
  .refine Wk qVK1.1 trivial ?_;refine Fn @results77 qVK1.1 ?_;try exact ⟨⟩
theorem eqF_c (l:List Fil) (h:l.length<=1000000):ACall prog 78 [] [fsD l,fsD l] (B true) []:=by
 refine Ac func78 ?_;refine Wk qVK1.1 trivial ?_;refine Cb ?_ ?_<;>intro hc<;>(try exact ⟨⟩)
 .simp at hc
 .refine Wk qVK1.1 trivial ?_;refine AWp.loop (fun k:Nat=>mkSt [(0,fsD l),(1,fsD l),(12,I l.length),(13,I k)] [] 0) (fun k=>k<=l.length) (fun k=>l.length - k) 0 (Nat.zero_le _) (by refine Le.of (τ:=[]) (ν:=[]) (by kernel_rfl) ?_ ?_<;>((refine Lw qVK1.1 ?_;try exact ⟨⟩);try omega)) fun k hk=>?_;refine Wk qVK1.1 trivial ?_;refine Cb ?_ ?_<;>intro hc<;>(try exact ⟨⟩)
  .refine Wk qVK1.1 trivial ?_;refine Cb ?_ ?_<;>intro hc<;>(try exact ⟨⟩)
   .simp at hc
   .refine Wk qVK1.1 trivial ?_;refine Za (k+1) (by omega) (by omega) (by refine Le.of (τ:=[]) (ν:=[]) (by kernel_rfl) ?_ ?_<;>((refine Lw qVK1.1 ?_;try exact ⟨⟩);try omega))
  .refine Wk qVK1.1 trivial ?_;refine Fn @results78 qVK1.1 ?_;try exact ⟨⟩
theorem eqS_c (l:List ByteArray) (h:l.length<=1000000):ACall prog 79 [] [ssD l,ssD l] (B true) []:=by
 refine Ac func79 ?_;refine Wk qVK1.1 trivial ?_;refine Cb ?_ ?_<;>intro hc<;>(try exact ⟨⟩)
 .simp at hc
 .refine Wk qVK1.1 trivial ?_;refine AWp.loop (fun k:Nat=>mkSt [(0,ssD l),(1,ssD l),(12,I l.length),(13,I k)] [] 0) (fun k=>k<=l.length) (fun k=>l.length - k) 0 (Nat.zero_le _) (by refine Le.of (τ:=[]) (ν:=[]) (by kernel_rfl) ?_ ?_<;>((refine Lw qVK1.1 ?_;try exact ⟨⟩);try omega)) fun k hk=>?_;refine Wk qVK1.1 trivial ?_;refine Cb ?_ ?_<;>intro hc<;>(try exact ⟨⟩)
  .refine Wk qVK1.1 trivial ?_;refine Cb ?_ ?_<;>intro hc<;>(try exact ⟨⟩)
   .simp at hc
   .refine Wk qVK1.1 trivial ?_;refine Za (k+1) (by omega) (by omega) (by refine Le.of (τ:=[]) (ν:=[]) (by kernel_rfl) ?_ ?_<;>((refine Lw qVK1.1 ?_;try exact ⟨⟩);try omega))
  .refine Wk qVK1.1 trivial ?_;refine Fn @results79 qVK1.1 ?_;try exact ⟨⟩
theorem bsame_c (b:Bk) (h:bkP b):ACall prog 28 [] [bkD b,bkD b] (B true) []:=by
 have hol:=(NO.Zq.1 h.ords).1;have hfl:=h.fl;have hil:=h.il;have h1:=eqO_c b.ords (by omega);have h2:=eqF_c b.fills (by omega);have h3:=eqS_c b.ids (by omega);refine Ac func28 ?_;refine Wk qVK1.1 (An @h1 (An @h2 @h3)) ?_;refine Fn @results28 qVK1.1 ?_;try exact ⟨⟩
abbrev tV (t:Trd):List V:=[vU t.kind,vU t.at_,vU t.qty,vS t.o.id,vS t.o.acc,vS t.o.sym,vB t.o.buy,vI t.o.qty,vI t.o.price,vI t.o.done,vB t.o.op]
abbrev tsD (l:List Trd):D:=.e (.c (.v (.s 11 (l.map tV))))
theorem getD_tR (l:List Trd) (i:Nat) (d:List V) (h:i<l.length):(l.map tV).getD i d=tV (l.getD i default):=by
 simp[List.getD_eq_getElem?_getD,h]
def t9:Trd:=⟨9,0,0,⟨⟨#[]⟩,⟨#[]⟩,⟨#[]⟩,false,0,0,0,false⟩⟩
def mkt0 (g:Gat):Mkt:=⟨g,⟨[],[],[],0,0⟩,[],0,0,[],[]⟩
theorem mkt0_ok {g:Gat} (hg:gatP g) (h1:g.vens.length=1) (h0:vat g 0=default):mktP (mkt0 g) 0 where
 one:=h1
 gat:=hg
 bad:=by show (vat g 0).bk.bad=0;rw[h0];rfl
 fut:=by show futP (vat g 0).bk (vat g 0).sent [] _ _;rw[h0];exact ⟨rfl,rfl⟩
 heard:=Nat.le_refl _
 log:=rfl
 olds:=rfl
 pen:=fun i hi=>absurd hi (by simp[mkt0])
 lims:=fun x hx=>by
  show leW (worstG g x.acc x.sym) _;rw[worst_one h1,h0];obtain ⟨j,hj,rfl⟩:=List.getElem_of_mem (show x∈g.lims from hx);have:=(hg.lims.2 j hj).1;rw[List.getD_eq_getElem?_getD,List.getElem?_eq_getElem hj]at this;simp only[NA.mayL,NA.amountB,Bool.and_eq_true,Option.getD_some,decide_eq_true_eq]at this;exact ⟨this.1.1.1.2.1,this.1.1.2.1⟩
 now:=⟨Int.le_refl _,Int.le_refl _⟩
 len:=⟨Nat.le_refl _,Nat.le_refl _⟩
theorem limit_one {g:Gat} (x:NA.Lim):(limitG g x).1.vens=g.vens:=by unfold limitG;split<;>rfl
theorem lall_le (b:Bk) (h:bkP b):(lallF b).length<=256:=by
 have h1:=h.fl;have h2:=dedT_len (sortN (namesF b)) (sortN (namesF b)).length;unfold lallF;rw[List.length_map];rw[sortN_len,namesF,List.length_map]at h2;unfold dedN;rw[sortN_len,namesF,List.length_map];omega
theorem lists_one {g:Gat} (h:g.vens.length=1):listsG g=[lallF (vat g 0).bk]:=by
 obtain ⟨vens,lims,kill,now,pat⟩:=g;dsimp only at h
 match vens,h with
 | [v],_=>rfl
theorem hear_all {m:Mkt} {n:Nat} (h:mktP m n) (he:¬m.heard<m.log.length):(vat m.g 0).bk=m.b:=by
 have:=h.fut;rw[List.drop_of_length_le (by omega)]at this;exact this.1
theorem do9 {m:Mkt} (he:m.heard<m.log.length):doM m t9={ m with g:=(toldG m.g 0 (m.log.getD m.heard default)).1,heard:=m.heard+1 }:=by
 unfold doM;rw[if_neg (by decide),if_neg (by decide),if_neg (by decide),if_neg (by decide),if_neg (by decide),if_pos he]
def qVL1:=PLift.up (An @mkI_0 (An @mkI_1 (An @mkI_2 (An @mkI_3 (An @NA.Zb (An @getD_vR (An @getD_tR (An @neg_w (An @tl83 (An @tl85 (An @tl86 (An @tl88 @tl90))))))))))))
theorem dom_run (hW:ACall prog 6 [] [] (B true) []) (ls:List NA.Lim) (l:List Trd) (h255:∀t,t∈l->t.kind<=255/\t.at_<=255/\t.qty<=255):ACall prog 5 [] [NA.lsD ls,tsD l] (B true) []:=by
 have hnew:ACall prog 23 [] [I 1,I 1099511627776] (.t [.a (gtC (newG 1 1099511627776)),.c (.v (vI 0))]) []:=gnew_c 1 1099511627776 (by omega) (by omega) (by unfold timeP;omega);refine Ac func5 ?_;by_cases h6:6<ls.length
 .have e6:decide ((6:Int)<(ls.length:Int))=true:=decide_eq_true (by omega);refine Wk (An @e6 qVL1.1) (An @hW @hnew) ?_;refine Cb ?_ ?_<;>intro hc<;>(try exact ⟨⟩)
  .contradiction
  .refine Wk (An @e6 qVL1.1) (An @hW @hnew) ?_;refine Cb ?_ ?_<;>intro hc<;>(try exact ⟨⟩)
   .refine Wk (An @e6 qVL1.1) (An @hW @hnew) ?_;refine Fn @results5 (An @e6 qVL1.1) ?_;try exact ⟨⟩
   .contradiction
 have e6:decide ((6:Int)<(ls.length:Int))=false:=decide_eq_false (by omega);by_cases h60:60<l.length
 .have e60:decide ((60:Int)<(l.length:Int))=true:=decide_eq_true (by omega);refine Wk (An @e6 (An @e60 qVL1.1)) (An @hW @hnew) ?_;refine Cb ?_ ?_<;>intro hc<;>(try exact ⟨⟩)
  .contradiction
  .refine Wk (An @e6 (An @e60 qVL1.1)) (An @hW @hnew) ?_;refine Cb ?_ ?_<;>intro hc<;>(try exact ⟨⟩)
   .refine Wk (An @e6 (An @e60 qVL1.1)) (An @hW @hnew) ?_;refine Fn @results5 (An @e6 (An @e60 qVL1.1)) ?_;try exact ⟨⟩
   .contradiction
 have e60:decide ((60:Int)<(l.length:Int))=false:=decide_eq_false (by omega);refine Wk (An @e6 (An @e60 qVL1.1)) (An @hW @hnew) ?_;refine Cb ?_ ?_<;>intro hc<;>(try exact ⟨⟩)
 .contradiction
 .refine Wk (An @e6 (An @e60 qVL1.1)) (An @hW @hnew) ?_;refine Cb ?_ ?_<;>intro hc<;>(try exact ⟨⟩)
  .contradiction
  .refine Wk (An @e6 (An @e60 qVL1.1)) (An @hW @hnew) ?_;have hg0:gatP (newG 1 1099511627776):=newG_right (by omega) (by omega) (by unfold timeP;omega);have hv0:(newG 1 1099511627776).vens=[default]:=rfl
   refine AWp.loop (fun s:Nat×Gat=>mkSt [(0,NA.lsD ls),(1,tsD l),(5,.p 0 0),(6,I 0),(7,I s.1)] [(0,.loc (gtC s.2))] 1)
    (fun s=>s.1<=ls.length/\gatP s.2/\s.2.vens=[default]) (fun s=>ls.length - s.1) (0,newG 1 1099511627776) ⟨Nat.zero_le _,hg0,hv0⟩ (by refine Le.of (τ:=[(0,960)]) (ν:=[]) (by kernel_rfl) ?_ ?_<;>((refine Lw (An @e6 (An @e60 qVL1.1)) ?_;try exact ⟨⟩);try (first|omega|rfl|exact ⟨rfl,rfl⟩))) fun s hs=>?_
   clear hg0 hv0;obtain ⟨i,g⟩:=s;obtain ⟨hi,hg,hv⟩:=hs;dsimp only at hi hg hv ⊢;refine Wk (An @e6 (An @e60 qVL1.1)) (An @hW @hnew) ?_;refine Cb ?_ ?_<;>intro hc<;>(try exact ⟨⟩)
   .have hil:i<ls.length:=by omega
    have hlim:=limit_c g (ls.getD i default) hg _ rfl;refine Wk (An @e6 (An @e60 qVL1.1)) (An @hW (An @hnew @hlim)) ?_;refine Za (i+1,(limitG g (ls.getD i default)).1) ⟨by dsimp only;omega,limit_right hg,by rw[limit_one];exact hv⟩ (by dsimp only;omega) (by refine Le.of (τ:=[]) (ν:=[]) (by kernel_rfl) ?_ ?_<;>((refine Lw (An @e6 (An @e60 qVL1.1)) ?_;try exact ⟨⟩);try omega))
   .clear hi hc;have hm0:=mkt0_ok hg (by rw[hv];rfl) (by unfold vat;rw[hv];rfl);refine Wk (An @e6 (An @e60 qVL1.1)) (An @hW @hnew) ?_;refine Cb ?_ ?_<;>intro hc<;>(try exact ⟨⟩)
    .contradiction
    .refine Wk (An @e6 (An @e60 qVL1.1)) (An @hW @hnew) ?_
     refine AWp.loop (fun s:Nat×Mkt=>mkSt [(1,tsD l),(8,.p 0 0),(9,I s.1)] [(0,.loc (mC s.2 1 2 3)),(1,.row 10 (xR s.2.log)),(2,.row 8 (NO.oR s.2.sent)),(3,.row 1 (sR s.2.olds))] 4)
      (fun s=>s.1<=l.length/\mktP s.2 s.1) (fun s=>l.length - s.1) (0,mkt0 g) ⟨Nat.zero_le _,hm0⟩ (by refine Le.of (τ:=[(0,513)]) (ν:=[1,2,3]) (by kernel_rfl) ?_ ?_<;>((refine Lw (An @e6 (An @e60 qVL1.1)) ?_;try exact ⟨⟩);try (first|omega|rfl|(repeat' constructor)))) fun s hs=>?_
     clear hm0 hg hv;obtain ⟨i,m⟩:=s;obtain ⟨hi,hm⟩:=hs;dsimp only at hi hm ⊢;refine Wk (An @e6 (An @e60 qVL1.1)) (An @hW @hnew) ?_;refine Cb ?_ ?_<;>intro hc<;>(try exact ⟨⟩)
     .have hil:i<l.length:=by omega
      have h2:=h255 _ (show l.getD i default∈l by rw[List.getD_eq_getElem?_getD,List.getElem?_eq_getElem hil];exact List.getElem_mem hil);obtain ⟨t,ht⟩:∃t,l.getD i default=t:=⟨_,rfl⟩
      rw[ht]at h2;obtain ⟨sb,hsb⟩:∃b,[t.o].all shO=b:=⟨_,rfl⟩
      have hsh:=short_c [t.o] (by simp) sb hsb
      cases sb with
      | false =>
       refine Wk (An @e6 (An @e60 (An @ht qVL1.1))) (An @hW (An @hnew @hsh)) ?_;refine Cb ?_ ?_<;>intro hc<;>(try exact ⟨⟩)
       .refine Wk (An @e6 (An @e60 (An @ht qVL1.1))) (An @hW (An @hnew @hsh)) ?_;refine Fn @results5 (An @e6 (An @e60 (An @ht qVL1.1))) ?_;try exact ⟨⟩
       .contradiction
      | true =>
       have hdo:=mdo_c m t i hm (by omega) h2.2.1 h2.2.2;have hk:=do_keep (t:=t) hm;refine Wk (An @e6 (An @e60 (An @ht qVL1.1))) (An @hW (An @hnew (An @hsh @hdo))) ?_;refine Cb ?_ ?_<;>intro hc<;>(try exact ⟨⟩)
       .contradiction
       .refine Wk (An @e6 (An @e60 (An @ht qVL1.1))) (An @hW (An @hnew (An @hsh @hdo))) ?_;generalize doM m t=m2 at hk;clear hm hsb h2
        refine AWp.loop (fun k:Nat=>mkSt [(1,tsD l),(8,.p 0 0),(9,I i),(10,I k)] [(0,.loc (mC m2 1 2 3)),(1,.row 10 (xR m2.log)),(2,.row 8 (NO.oR m2.sent)),(3,.row 1 (sR m2.olds))] 4)
         (fun k=>k<=m2.g.lims.length) (fun k=>m2.g.lims.length - k) 0 (Nat.zero_le _) (by refine Le.of (τ:=[(1,1092),(2,1093),(3,1094)]) (ν:=[]) (by kernel_rfl) ?_ ?_<;>((refine Lw (An @e6 (An @e60 (An @ht qVL1.1))) ?_;try exact ⟨⟩);try (first|omega|rfl|exact ⟨rfl,rfl⟩))) fun k hkl=>?_
        refine Wk (An @e6 (An @e60 (An @ht qVL1.1))) (An @hW (An @hnew (An @hsh @hdo))) ?_;refine Cb ?_ ?_<;>intro hc<;>(try exact ⟨⟩)
        .have hkk:k<m2.g.lims.length:=by omega
         have h32:=hk.gat.lims.1;have hxm:m2.g.lims.getD k default∈m2.g.lims:=by rw[List.getD_eq_getElem?_getD,List.getElem?_eq_getElem hkk];exact List.getElem_mem hkk
         obtain ⟨x,hx⟩:∃x,m2.g.lims.getD k default=x:=⟨_,rfl⟩
         rw[hx]at hxm;have hb2:=(mkt_bk hk).1;have b1:=hk.lims x hxm;have b2:=mkt_worst hk x.acc x.sym;have hworst:=gworst_c m2.g x.acc x.sym hk.gat
         have hof:=of_c m2.b x.acc x.sym hb2;obtain ⟨p,hp⟩:∃p,posOf m2.b x.acc x.sym=p:=⟨_,rfl⟩
         have hlof:=lof_c m2.b x.acc x.sym hb2 p hp;have b3:=pos_le (a:=x.acc) (s:=x.sym) hb2;have b4:=(posN_good m2.b ⟨x.acc,x.sym⟩).1;unfold posN NA.okN at b4;rw[hp]at b3 b4;have hng:=Int.zero_sub p.qty;unfold leW at b1 b2;generalize worstG m2.g x.acc x.sym=W at hworst b1 b2;generalize ofW m2.b x.acc x.sym=T at hof b2 b3;refine Wk (An @e6 (An @e60 (An @ht (An @hx (An @hng qVL1.1))))) (An @hW (An @hnew (An @hsh (An @hdo (An @hworst (An @hof @hlof)))))) ?_;refine Cb ?_ ?_<;>intro hc<;>(try exact ⟨⟩)
         .exfalso;omega
         .refine Wk (An @e6 (An @e60 (An @ht (An @hx (An @hng qVL1.1))))) (An @hW (An @hnew (An @hsh (An @hdo (An @hworst (An @hof @hlof)))))) ?_;refine Cb ?_ ?_<;>intro hc<;>(try exact ⟨⟩)
          .exfalso;have:=b3 hc.1;omega
          .refine Wk (An @e6 (An @e60 (An @ht (An @hx (An @hng qVL1.1))))) (An @hW (An @hnew (An @hsh (An @hdo (An @hworst (An @hof @hlof)))))) ?_;refine Za (k+1) (show k+1<=m2.g.lims.length by omega) (by omega) (by refine Le.of (τ:=[]) (ν:=[]) (by kernel_rfl) ?_ ?_<;>((refine Lw (An @e6 (An @e60 (An @ht (An @hx (An @hng qVL1.1))))) ?_;try exact ⟨⟩);try omega))
        .have hbad:(m2.g.vens.getD 0 default).bk.bad=0:=hk.bad;have hv1:=hk.one;have hll:=hk.len;have hkeeps:=keeps_c m2.log m2.b (by omega) hk.log;refine Wk (An @e6 (An @e60 (An @ht (An @hbad qVL1.1)))) (An @hW (An @hnew (An @hsh (An @hdo @hkeeps)))) ?_;refine Cb ?_ ?_<;>intro hc<;>(try exact ⟨⟩)
         .contradiction
         .refine Wk (An @e6 (An @e60 (An @ht (An @hbad qVL1.1)))) (An @hW (An @hnew (An @hsh (An @hdo @hkeeps)))) ?_;refine Za (i+1,m2) ⟨by dsimp only;omega,hk⟩ (by dsimp only;omega) (by refine Le.of (τ:=[]) (ν:=[]) (by kernel_rfl) ?_ ?_<;>((refine Lw (An @e6 (An @e60 (An @ht (An @hbad qVL1.1)))) ?_;try exact ⟨⟩);try omega))
     .have hil:i=l.length:=by omega
      subst hil;refine Wk (An @e6 (An @e60 qVL1.1)) (An @hW @hnew) ?_
      refine AWp.loop (fun m:Mkt=>mkSt [(8,.p 0 0)] [(0,.loc (mC m 1 2 3)),(1,.row 10 (xR m.log)),(2,.row 8 (NO.oR m.sent)),(3,.row 1 (sR m.olds))] 4)
       (fun m=>mktP m l.length) (fun m=>m.log.length - m.heard) m hm (by refine Le.of (τ:=[]) (ν:=[]) (by kernel_rfl) ?_ ?_<;>((refine Lw (An @e6 (An @e60 qVL1.1)) ?_;try exact ⟨⟩);try (first|omega|rfl))) fun m hm=>?_
      refine Wk (An @e6 (An @e60 qVL1.1)) (An @hW @hnew) ?_;refine Cb ?_ ?_<;>intro hc<;>(try exact ⟨⟩)
      .have hlt:m.heard<m.log.length:=by omega
       have hdo:=mdo_c m t9 _ hm (by omega) (by decide) (by decide);have hk:=hear_keep hm hlt;rw[do9 hlt]at hdo;refine Wk (An @e6 (An @e60 qVL1.1)) (An @hW (An @hnew @hdo)) ?_;refine Za { m with g:=(toldG m.g 0 (m.log.getD m.heard default)).1,heard:=m.heard+1 } hk (by dsimp only;omega) (by refine Le.of (τ:=[(1,772),(2,773),(3,774)]) (ν:=[]) (by kernel_rfl) ?_ ?_<;>((refine Lw (An @e6 (An @e60 qVL1.1)) ?_;try exact ⟨⟩);try (first|omega|rfl)))
      .have hbk:(m.g.vens.getD 0 default).bk=m.b:=hear_all hm (by omega);have hv1:=hm.one;have hb2:=(mkt_bk hm).1;have hsame:=bsame_c m.b hb2;obtain ⟨P,hP⟩:∃P,lallF m.b=P:=⟨_,rfl⟩
       have hall:=lall_c m.b hb2 P hP;have hPl:=lall_le m.b hb2;have hlo:listsG m.g=[P]:=by rw[lists_one hv1,hear_all hm (by omega),hP]
       have hpos:=gpos_c m.g hm.gat (by rw[hlo,<-hP];simpa using (by omega:(lallF m.b).length<=1000)) P (by rw[posG_eq,hlo,List.flatten_cons,List.flatten_nil,List.append_nil,NA.allF_self (hP ▸ lall_right m.b)]);have hsame2:=NA.same17_c P (by rw[<-hP];omega);refine Wk (An @e6 (An @e60 (An @hbk qVL1.1))) (An @hW (An @hnew (An @hsame (An @hpos (An @hall @hsame2))))) ?_;refine Fn @results5 (An @e6 (An @e60 (An @hbk qVL1.1))) ?_;try exact ⟨⟩
section
open Go.ChangeShapes Go.WideShapes Go.ChangeAt Go.RowKit
theorem rd_u:Rd prog 5 fun vs=>∃n:Nat,n<=255/\vs=[vU n]:=(rd_int (k:=.u8) (by kernel_rfl)).imp fun _ ⟨n,h1,h2,h⟩=>by
 have e1:IntKind.u8.min=0:=rfl;have e2:IntKind.u8.max=255:=rfl;rw[e1]at h1;rw[e2]at h2;obtain ⟨k,rfl⟩:=Int.eq_ofNat_of_zero_le h1;exact ⟨k,by omega,h⟩
def trdP (t:Trd):Prop:=t.kind<=255/\t.at_<=255/\t.qty<=255
theorem rd_trd:Rd prog 90 fun vs=>∃t:Trd,trdP t/\vs=tV t:=by
 refine (rd_structL (l:=[(0,5),(1,5),(2,5),(3,44)]) (by kernel_rfl) (by kernel_rfl)
  (Z3 (off':=1) (by kernel_rfl) rd_u (Z3 (off':=2) (by kernel_rfl) rd_u (Z3 (off':=3) (by kernel_rfl) rd_u (Z3 (off':=11) (by kernel_rfl) rd_ord (RdL.nil _)))))).imp ?_
 rintro vs ⟨_,_,⟨a,ha,rfl⟩,⟨_,_,⟨b,hb,rfl⟩,⟨_,_,⟨c,hc,rfl⟩,⟨_,_,⟨d,rfl⟩,rfl,rfl⟩,rfl⟩,rfl⟩,rfl⟩;exact ⟨⟨a,b,c,d⟩,⟨ha,hb,hc⟩,rfl⟩
theorem arg_trds:ArgRd prog 83 fun x=>∃l:List Trd,(∀t,t∈l->trdP t)/\x=tsD l:=by
 refine (arg_one (ds:=.slice 90) (by kernel_rfl) rfl (rd_slice (e:=90) (by kernel_rfl) rd_trd) (fun vs ⟨n,_,_,h⟩=>by rw[h];rfl)).imp ?_;rintro x ⟨a,⟨rows,hr,_,h⟩,rfl⟩;obtain ⟨l,hq,rfl,_⟩:=rows_map (f:=tV) (Q:=trdP) (rows:=rows) fun r h=>hr r h;simp only[List.cons.injEq,and_true]at h;exact ⟨l,hq,by rw[h,show prog.cellsOf 90=11 by kernel_rfl]⟩
end
end Eng
end Go.Proofs.YtgenjpingdkmgaaGreatDoor
namespace Go.Proofs.YtgenjpingdkmgaaGreatDoor
def layJoin_ren:Go.Shelf.Ren:=⟨fun|156=>240|165=>273|166=>274|169=>275|240=>303|241=>304|276=>331|277=>332|n=>n,fun|0=>0|2=>2|3=>3|4=>4|5=>5|9=>9|20=>20|31=>56|37=>24|70=>368|72=>370|75=>365|76=>371|127=>392|164=>414|80=>373|n=>n,fun|n=>n⟩
theorem layJoin:Lays.n156 prog layJoin_ren where
 mixed:=by kernel_rfl
 f156:=func240.trans (congrArg some (by kernel_rfl))
 f165:=func273.trans (congrArg some (by kernel_rfl))
 f166:=func274.trans (congrArg some (by kernel_rfl))
 f169:=func275.trans (congrArg some (by kernel_rfl))
 f240:=func303.trans (congrArg some (by kernel_rfl))
 f241:=func304.trans (congrArg some (by kernel_rfl))
 f276:=func331.trans (congrArg some (by kernel_rfl))
 f277:=func332.trans (congrArg some (by kernel_rfl))
 t0:=underlying0
 a0:=isAgg0
 z0:=sizeOf0
 v0:=zeroValue0
 t3:=underlying3
 a3:=isAgg3
 z3:=sizeOf3
 v3:=zeroValue3
 t4:=underlying4
 a4:=isAgg4
 z4:=sizeOf4
 v4:=zeroValue4
 t9:=underlying9
 a9:=isAgg9
 z9:=sizeOf9
 v9:=zeroValue9
 t20:=underlying20
 a20:=isAgg20
 z20:=sizeOf20
 v20:=zeroValue20
 t31:=underlying56
 a31:=isAgg56
 z31:=sizeOf56
 v31:=zeroValue56
 t37:=underlying24
 a37:=isAgg24
 z37:=sizeOf24
 v37:=zeroValue24
 t70:=underlying368
 a70:=isAgg368
 z70:=sizeOf368
 v70:=zeroValue368
 t72:=underlying370
 a72:=isAgg370
 z72:=sizeOf370
 v72:=zeroValue370
 t75:=underlying365
 a75:=isAgg365
 z75:=sizeOf365
 v75:=zeroValue365
 t76:=underlying371
 a76:=isAgg371
 z76:=sizeOf371
 v76:=zeroValue371
 t127:=underlying392
 a127:=isAgg392
 z127:=sizeOf392
 v127:=zeroValue392
 t164:=underlying414
 a164:=isAgg414
 z164:=sizeOf414
 v164:=zeroValue414
theorem extraJoin:Builder.Extra prog layJoin_ren where
 sizeBuilder:=by kernel_rfl
 liesBuilder:=by kernel_rfl
 t5:=underlying5
 a5:=isAgg5
 z5:=sizeOf5
 v5:=zeroValue5
 infoByte:=by kernel_rfl
 cellsByte:=by kernel_rfl
 sizeByte:=by kernel_rfl
 neB5:=by decide
namespace Eng
open Go.RowKit
theorem rep_strs {w:World} {ow:Nat->Prop} {l:List ByteArray} {sl:Value} (hsl:RepV w ow (ssV l) sl):(l=[]/\∃a c,sl=.slice a 0 c) \/
 ∃b off c,sl=.slice (some ⟨b,off,none⟩) l.length c/\b<w.heap.size/\l.length<=c/\∀(j:Nat) x,l[j]?=some x->w.cell? ⟨b,off+j,none⟩=some (.string x):=by
 obtain ⟨a,cap,rfl,hcp,hz,hcl⟩:∃(a:Option Addr) (cap:Nat),sl=.slice a l.length cap/\l.length<=cap/\(a=none->l=[])/\(∀ad,a=some ad->∀j (h:j<l.length),w.cell? (ad.add j)=some (.string (l.getD j default))):=by
  cases hsl with
  | s _ _ a n c g hn hk hz hcap hc hr =>
   have hn:n=l.length:=by simpa using hn
   subst hn;refine ⟨a,c,rfl,hcap,fun h=>by simpa using hz h,fun ad had j hj=>?_⟩;have e1:(l.map fun s=>[V.x (.string s)])[j]?=some [V.x (.string (l.getD j default))]:=by simp[hj]
   have h1:=(hc ad had j _ 0 _ e1 rfl).1;have h2:=hr j _ 0 _ e1 rfl
   have e2:g j 0=.string (l.getD j default):=by
    generalize g j 0=u at h2;cases h2;rfl
   rw[<-e2];simpa using h1
 rcases Nat.eq_zero_or_pos l.length with h0|h0
 .have:l=[]:=List.length_eq_zero_iff.1 h0;subst this;exact .inl ⟨rfl,_,_,rfl⟩
 .right
  cases a with
  | none=>have:=hz rfl;subst this;simp at h0
  | some ad =>
   obtain ⟨b,off,sp⟩:=ad;have h00:=hcl _ rfl 0 h0
   have hsp:sp=none:=by
    unfold World.cell? Addr.add at h00;simp only[if_true]at h00
    split at h00
    .cases sp with
     | none=>rfl
     | some _=>simp at h00
    .cases h00
   subst hsp;refine ⟨b,off,cap,rfl,?_,hcp,fun j x hj=>?_⟩
   .have:=World.block_lt_of_cell? _ _ h00
    rwa [Yi]at this
   .obtain ⟨hjl,hjx⟩:=List.getElem?_eq_some_iff.1 hj;have:=hcl _ rfl j hjl
    have e:(⟨b,off,none⟩:Addr).add j=⟨b,off+j,none⟩:=by
     unfold Addr.add
     split
     .rename_i h;subst h;rfl
     .rfl
    rw[e]at this;rw[this,List.getD_eq_getElem?_getD,hj];rfl
def joinS (l:List ByteArray) (sep:ByteArray):ByteArray:=⟨(Lib.join (l.map (·.data.toList)) sep.data.toList).toArray⟩
theorem join_c (l:List ByteArray) (sep:ByteArray) (hl:l.length<=1000) (hj:(joinS l sep).size<=1000000):ACall prog 240 [] [ssD l,StD sep] (StD (joinS l sep)) []:=by
 refine NU.acall_raw ⟨_,func240,by kernel_rfl,by kernel_rfl⟩ fun w vs ow ρ hG ha=>?_
 match vs,ha with
 | [a,b],⟨h2,h3,_⟩ =>
  obtain ⟨rfl,_⟩:=rep_x (v:=.string sep) h3;rcases rep_strs (show RepV w _ (ssV l) a from h2) with ⟨rfl,ad,c,rfl⟩|⟨b,off,c,rfl,hb,hc,hx⟩
  .refine (Any.strings_Join_none layJoin extraJoin ad c sep w).mono ?_;rintro e w' ⟨rfl,rfl⟩;exact ⟨_,rfl,Below.refl _ _,fun _ _=>RepV.x _ rfl⟩
  .have hj2:(Lib.join (l.map (·.data.toList)) sep.data.toList).length<=140737488355328:=by
    have:(joinS l sep).size=(Lib.join (l.map (·.data.toList)) sep.data.toList).length:=rfl;omega
   refine (Any.strings_Join layJoin extraJoin b off c l sep w hx hb (by omega) hc hj2).mono ?_;rintro e w' ⟨rfl,hw⟩;exact ⟨_,rfl,hw,fun _ _=>RepV.x _ rfl⟩
end Eng
end Go.Proofs.YtgenjpingdkmgaaGreatDoor
namespace Go.Proofs.YtgenjpingdkmgaaGreatDoor
def layIt_ren:Go.Shelf.Ren:=⟨fun|173=>202|246=>248|283=>283|284=>284|285=>285|286=>286|129=>172|317=>310|318=>311|319=>312|320=>313|337=>334|338=>335|171=>242|243=>279|n=>n,fun|2=>2|3=>3|9=>9|4=>4|171=>380|0=>0|53=>209|37=>24|5=>5|173=>382|212=>396|51=>246|20=>20|213=>397|46=>192|232=>426|233=>427|n=>n,fun|17=>3|18=>8|19=>9|n=>n⟩
theorem layIt:Lays.n171 prog layIt_ren where
 mixed:=by kernel_rfl
 f129:=func172.trans (congrArg some (by kernel_rfl))
 f171:=func242.trans (congrArg some (by kernel_rfl))
 f243:=func279.trans (congrArg some (by kernel_rfl))
 f246:=func248.trans (congrArg some (by kernel_rfl))
 f283:=func283.trans (congrArg some (by kernel_rfl))
 f284:=func284.trans (congrArg some (by kernel_rfl))
 f285:=func285.trans (congrArg some (by kernel_rfl))
 f286:=func286.trans (congrArg some (by kernel_rfl))
 f317:=func310.trans (congrArg some (by kernel_rfl))
 f318:=func311.trans (congrArg some (by kernel_rfl))
 f319:=func312.trans (congrArg some (by kernel_rfl))
 f320:=func313.trans (congrArg some (by kernel_rfl))
 f337:=func334.trans (congrArg some (by kernel_rfl))
 f338:=func335.trans (congrArg some (by kernel_rfl))
 t0:=underlying0
 a0:=isAgg0
 z0:=sizeOf0
 v0:=zeroValue0
 t2:=underlying2
 a2:=isAgg2
 z2:=sizeOf2
 v2:=zeroValue2
 t3:=underlying3
 a3:=isAgg3
 z3:=sizeOf3
 v3:=zeroValue3
 t4:=underlying4
 a4:=isAgg4
 z4:=sizeOf4
 v4:=zeroValue4
 t5:=underlying5
 a5:=isAgg5
 z5:=sizeOf5
 v5:=zeroValue5
 t9:=underlying9
 a9:=isAgg9
 z9:=sizeOf9
 v9:=zeroValue9
 t20:=underlying20
 a20:=isAgg20
 z20:=sizeOf20
 v20:=zeroValue20
 t37:=underlying24
 a37:=isAgg24
 z37:=sizeOf24
 v37:=zeroValue24
 t46:=underlying192
 a46:=isAgg192
 z46:=sizeOf192
 v46:=zeroValue192
 t51:=underlying246
 a51:=isAgg246
 z51:=sizeOf246
 v51:=zeroValue246
 t53:=underlying209
 a53:=isAgg209
 z53:=sizeOf209
 v53:=zeroValue209
 t171:=underlying380
 a171:=isAgg380
 z171:=sizeOf380
 v171:=zeroValue380
 t173:=underlying382
 a173:=isAgg382
 z173:=sizeOf382
 v173:=zeroValue382
 t212:=underlying396
 a212:=isAgg396
 z212:=sizeOf396
 v212:=zeroValue396
 t213:=underlying397
 a213:=isAgg397
 z213:=sizeOf397
 t232:=underlying426
 a232:=isAgg426
 z232:=sizeOf426
 v232:=zeroValue426
 t233:=underlying427
 a233:=isAgg427
 z233:=sizeOf427
 v233:=zeroValue427
 g17:=by kernel_rfl
 g18:=by kernel_rfl
 g19:=by kernel_rfl
namespace Eng
open Go.RowKit
theorem itoa_c (i:Nat) (hi:i<100):ACall prog 242 [] [I i] (StD ⟨(Lib.decDigits i).toArray⟩) []:=by
 refine NU.acall_raw ⟨_,func242,by kernel_rfl,by kernel_rfl⟩ fun w vs ow ρ hG ha=>?_
 match vs,ha with
 | [a],⟨h2,_⟩ =>
  obtain ⟨rfl,_⟩:=rep_x (v:=.int .i64 i) h2;refine (Any.strconv_Itoa_small layIt i hi w).mono ?_;rintro e w2 ⟨rfl,rfl⟩;exact ⟨_,rfl,Below.refl _ _,fun _ _=>RepV.x _ rfl⟩
end Eng
end Go.Proofs.YtgenjpingdkmgaaGreatDoor
