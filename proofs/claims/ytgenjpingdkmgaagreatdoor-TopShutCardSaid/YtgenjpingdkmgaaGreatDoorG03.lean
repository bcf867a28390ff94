/- Contracts of functions that this seat's law calls. No condition. -/
import Derived.Test.YtgenjpingdkmgaaGreatDoorG02
set_option maxRecDepth 100000
set_option linter.unusedSimpArgs false
set_option linter.unusedVariables false
namespace Go.Proofs.YtgenjpingdkmgaaGreatDoor
namespace Eng
variable {P:Program} {Γ:Nat->Option Ty} {own0 mt:Nat->Prop} {w0 w:World} {ow:Nat->Prop} {ρ:Nat->Option Pl} {H:Nat->Option Blk} {q:Bool}
 {d':D} {ups:Ups}
theorem rep_nil {u:Value} (h:RepD w ow ρ (.x (.slice none 0 0)) u):u=.slice none 0 0:=(rep_x h).1
theorem rep_s {k:Nat} {rows:List (List V)} {u:Value} (h:RepV w ow (.s k rows) u):∃a c,u=.slice a rows.length c/\rows.length<=c/\(a=none->rows=[]) /\
 (∀(i:Nat) (r:List V),rows[i]?=some r->r.length=k) /\
 ∀ad,a=some ad->∀(i:Nat) (r:List V) (j:Nat) (v:V),rows[i]?=some r->r[j]?=some v->∃x,w.cell? (ad.add (i*k+j))=some x/\RepV w ow v x/\¬ow ad.block:=by
 cases h with
 | s k rows a n c g hn hk hz hcap hc hr =>
  subst hn;exact ⟨a,c,rfl,hcap,hz,hk,fun ad ha i r j v hi hj=>⟨_,(hc ad ha i r j v hi hj).1,hr i r j v hi hj,(hc ad ha i r j v hi hj).2⟩⟩
theorem mk_s {k:Nat} {rows:List (List V)} {a:Option Addr} {n c:Nat} (hn:n=rows.length) (hk:∀(i:Nat) (r:List V),rows[i]?=some r->r.length=k) (hz:a=none->rows=[]) (hcap:n<=c)
 (h:∀ad,a=some ad->∀(i:Nat) (r:List V) (j:Nat) (v:V),rows[i]?=some r->r[j]?=some v->∃x,w.cell? (ad.add (i*k+j))=some x/\RepV w ow v x/\¬ow ad.block) :
 RepV w ow (.s k rows) (.slice a n c):=by
 refine .s k rows a n c (fun i j=>((a.bind fun ad=>w.cell? (ad.add (i*k+j)))).getD undef) hn hk hz hcap (fun ad ha i r j v hi hj=>?_) (fun i r j v hi hj=>?_)
 .obtain ⟨x,hx,_,hn⟩:=h ad ha i r j v hi hj;subst ha;simp[hx,hn]
 .cases a with
  | none=>simp[hz rfl]at hi
  | some ad =>
   obtain ⟨x,hx,hv,_⟩:=h ad rfl i r j v hi hj;simpa[hx] using hv
theorem addr_add_mul (ad:Addr) (a b:Nat) (x:Value) (h:w.cell? (ad.add (a+b))=some x):w.cell? ((ad.add a).add b)=some x:=by
 by_cases hb:b=0
 .subst hb;have:(ad.add a).add 0=ad.add (a+0):=by simp[Addr.add]
  rw[this];exact h
 .rw[addr_add_add _ _ _ (.inl hb)];exact h
theorem indexAddr_sound (hΓ:TysOk P Γ) {t:TypeId} {ty:Ty} (ht:TyOk P t ty) {d ix:D} {u v:Value} (hq:q=true) (hd:RepD w ow ρ d u) (hi:RepD w ow ρ ix v)
 (hg:(indexAddrE Γ ty q d ix).gives P (d',ups)):ups=[]/\∃r,(Instr.indexAt t u v).run P w=.ok r w/\RepD w ow ρ d' r:=by
 unfold indexAddrE at hg;have hu:=ht.under
 split at hg
 .rename_i ik i;obtain ⟨rfl,_⟩:=rep_x hi
  split at hg
  .rename_i e hdesc;rw[hdesc]at hu
   split at hg
   .rename_i te hte;have hts:=Zr (hΓ _ _ hte)
    split at hg
    .rename_i k rows;obtain ⟨h0,hg⟩:=hg;obtain ⟨h1,h2,h3⟩:=h0 hq;have hg':(d',ups)=(_,_):=hg;cases hg';obtain ⟨a,c,rfl,hcap,hz,hk,hcell⟩:=rep_s (show RepV w ow (.s k rows) u from hd)
     cases a with
     | none=>have:=hz rfl;subst this;simp at h2;omega
     | some ad =>
      refine ⟨rfl,.pointer (some (ad.add (i.toNat*te.size))),?_,_,rfl,?_⟩
      .simp[Instr.indexAt,asIntOf,run_underlying hu,hts,h1,h2]
      .intro j v hj
       have hri:rows[i.toNat]?=some (rows.getD i.toNat (zeroV te)):=by
        have:i.toNat<rows.length:=by omega
        simp[List.getD,this]
       obtain ⟨x,hx,hv,hn⟩:=hcell ad rfl _ _ _ _ hri hj;exact ⟨x,addr_add_mul _ _ _ _ (by rw[<-h3];exact hx),hv,by rwa [Yg]⟩
    .rename_i r n;obtain ⟨h0,hg⟩:=hg;obtain ⟨h1,h2⟩:=h0 hq;have hg':(d',ups)=(_,_):=hg;cases hg';obtain ⟨m,hm,h⟩:=hd
     cases m with
     | nil=>obtain ⟨rfl,_⟩:=h;simp at h2;omega
     | blk b base cap =>
      obtain ⟨rfl,hle⟩:=h;refine ⟨rfl,.pointer (some (Addr.add ⟨b,base,none⟩ (i.toNat*te.size))),?_,b,base,cap,hm,by rw[Zw];simp⟩;simp[Instr.indexAt,asIntOf,run_underlying hu,hts,h1,h2]
    .obtain ⟨h0,_⟩:=hg;exact (h0 hq).elim
    .rename_i r k off n;obtain ⟨h0,hg⟩:=hg;obtain ⟨h1,h2,h3⟩:=h0 hq;have hg':(d',ups)=(_,_):=hg;cases hg';obtain ⟨m,hm,h⟩:=hd
     cases m with
     | nil=>obtain ⟨rfl,_⟩:=h;simp at h2;omega
     | blk b base cap =>
      obtain ⟨hle,a,c,rfl,hnc,ha⟩:=h;obtain rfl:=ha (by omega);refine ⟨rfl,.pointer (some (Addr.add ⟨b,base+off*k,none⟩ (i.toNat*te.size))),?_,b,base,cap,hm,by rw[Zw,h3,Nat.add_mul];simp[Nat.add_assoc]⟩;simp[Instr.indexAt,asIntOf,run_underlying hu,hts,h1,h2]
    .exact hg.elim
   .exact hg.elim
  .rename_i n e hdesc;rw[hdesc]at hu
   split at hg
   .rename_i te hte;have hts:=Zr (hΓ _ _ hte)
    split at hg
    .rename_i h2n;obtain ⟨hb,hg2⟩:=hg;obtain ⟨h0,hj⟩:=hb hq;obtain ⟨j,rfl⟩:∃j:Nat,i=(j:Int):=⟨i.toNat,by omega⟩
     have hj:j<n:=by omega
     simp only[Int.toNat_natCast]at hg2
     split at hg2
     .rename_i d1 hs;have hg':(d',ups)=(_,_):=hg2;cases hg';obtain ⟨a,rfl,hr⟩:=shiftPtr_rep hs hd;refine ⟨rfl,_,?_,hr⟩;have h2:¬(n<=1):=by omega
      simp[Instr.indexAt,asIntOf,run_underlying hu,hts,Instr.sureAddr,hj,h2]
     .exact hg2.elim
    .obtain ⟨h2n,hg⟩:=hg;obtain ⟨j,hj,rfl,hg2⟩:=among_gives hq hg;clear hg
     split at hg2
     .rename_i d1 hs;have hg':(d',ups)=(_,_):=hg2;cases hg';obtain ⟨a,rfl,hr⟩:=shiftPtr_rep hs hd;refine ⟨rfl,_,?_,hr⟩;have h2:¬(n<=1):=by omega
      simp[Instr.indexAt,asIntOf,run_underlying hu,hts,Instr.sureAddr,hj,h2]
     .exact hg2.elim
   .exact hg.elim
  .exact hg.elim
 .exact hg.elim
theorem index_sound (hΓ:TysOk P Γ) {t:TypeId} {ty:Ty} (ht:TyOk P t ty) {d ix:D} {u v:Value} (hq:q=true) (hd:RepD w ow ρ d u) (hi:RepD w ow ρ ix v)
 (hg:(indexE Γ ty q d ix).gives P (d',ups)):ups=[]/\∃r,(Instr.index t u v).run P w=.ok r w/\RepD w ow ρ d' r:=by
 unfold indexE at hg;have hu:=ht.under
 split at hg
 .rename_i ik i;obtain ⟨rfl,_⟩:=rep_x hi
  split at hg
  .rename_i hdesc;rw[hdesc]at hu
   split at hg
   .rename_i s;obtain ⟨rfl,_⟩:=rep_x hd;obtain ⟨h0,hg⟩:=hg;obtain ⟨h1,h2⟩:=h0 hq;refine ok_x hg rfl ?_;have hlt:i.toNat<s.size:=by omega
    have hx:s[i.toNat]?=some (s[i.toNat]'hlt):=getElem?_pos s i.toNat hlt
    have hy:strAt s i.toNat=s[i.toNat]'hlt:=by
     have:s.data.toList[i.toNat]?=some (s[i.toNat]'hlt):=by
      rw[Array.getElem?_toList,Array.getElem?_eq_getElem (by exact hlt)];rfl
     simp[strAt,List.getD,this]
    simp[Instr.index,asIntOf,run_underlying hu,h1,hx,hy]
   .exact hg.elim
  .rename_i n e hdesc;rw[hdesc]at hu
   split at hg
   .rename_i te hte;have hts:=Zr (hΓ _ _ hte)
    split at hg
    .rename_i cs;obtain ⟨j,hj,rfl,hg2⟩:=among_gives hq hg;obtain ⟨⟨hl,hsz⟩,hg2⟩:=hg2;have hg':(d',ups)=(_,_):=hg2;cases hg';obtain ⟨us,rfl,ha⟩:=hd;obtain ⟨r,hr,hrep⟩:=part_sound (P:=P) (hΓ _ _ hte) ha hl hsz;refine ⟨rfl,r,?_,hrep⟩;simp[Instr.index,asIntOf,run_underlying hu,hts,hj,hr]
    .exact hg.elim
   .exact hg.elim
  .exact hg.elim
 .exact hg.elim
theorem len_sound {t:TypeId} {ty:Ty} (ht:TyOk P t ty) {d:D} {u:Value} (hd:RepD w ow ρ d u) {ts:Array TypeId} (hts:ts[0]?=some t) (T:TypeId)
 (hg:(lenE ty d).gives P (d',ups)):ups=[]/\∃r,(Builtin.len_ ts T #[u]).run P w=.ok r w/\RepD w ow ρ d' r:=by
 unfold lenE at hg;have hu:=ht.under
 split at hg
 .rename_i hdesc;rw[hdesc]at hu
  split at hg
  .obtain ⟨rfl,_⟩:=rep_x hd;exact ok_x hg rfl (by simp[Builtin.len_,hts,run_underlying hu,goInt])
  .exact hg.elim
 .rename_i hdesc;rw[hdesc]at hu;exact ok_x hg rfl (by simp[Builtin.len_,hts,run_underlying hu,goInt])
 .rename_i hdesc;rw[hdesc]at hu
  split at hg
  .rename_i k rows;obtain ⟨a,c,rfl,_⟩:=rep_s (show RepV w ow (.s k rows) u from hd);exact ok_x hg rfl (by simp[Builtin.len_,hts,run_underlying hu,goInt])
  .obtain ⟨m,hm,h⟩:=hd
   cases m with
   | nil =>
    obtain ⟨rfl,a,rfl⟩:=h
    exact ok_x hg rfl (by simp[Builtin.len_,hts,run_underlying hu,goInt])
   | blk b base cap =>
    obtain ⟨rfl,hle⟩:=h;exact ok_x hg rfl (by simp[Builtin.len_,hts,run_underlying hu,goInt])
  .obtain ⟨rfl,_⟩:=rep_x hd;exact ok_x hg rfl (by simp[Builtin.len_,hts,run_underlying hu,goInt])
  .obtain ⟨m,hm,h⟩:=hd
   cases m with
   | nil =>
    obtain ⟨rfl,a,rfl⟩:=h
    exact ok_x hg rfl (by simp[Builtin.len_,hts,run_underlying hu,goInt])
   | blk b base cap =>
    obtain ⟨_,a,c,rfl,_⟩:=h;exact ok_x hg rfl (by simp[Builtin.len_,hts,run_underlying hu,goInt])
  .exact hg.elim
 .exact hg.elim
end Eng
end Go.Proofs.YtgenjpingdkmgaaGreatDoor
namespace Go.Proofs.YtgenjpingdkmgaaGreatDoor
namespace Eng
variable {P:Program} {Γ:Nat->Option Ty} {own0 mt:Nat->Prop} {w0 w:World} {ow:Nat->Prop} {ρ:Nat->Option Pl} {H:Nat->Option Blk} {q:Bool}
 {d':D} {ups:Ups}
theorem flatten_get {α:Type} {k:Nat}:∀ {rows:List (List α)},(∀r,r∈rows->r.length=k)->∀ {i j:Nat},j<k->rows.flatten[i*k+j]?=(rows[i]?).bind (·[j]?)
 | [],_,i,j,_=>by simp
 | r::rows,h,0,j,hj=>by
  have hr:=h r (by simp);simp only[List.flatten_cons,Nat.zero_mul,Nat.zero_add];rw[List.getElem?_append_left (by omega)]
  rfl
 | r::rows,h,i+1,j,hj=>by
  have hr:=h r (by simp);have ih:=flatten_get (rows:=rows) (fun r hr=>h r (by simp[hr])) (i:=i) hj;simp only[List.flatten_cons];rw[List.getElem?_append_right (by rw[Nat.add_mul];omega),hr,show (i+1)*k+j - k=i*k+j by rw[Nat.add_mul];omega,ih];rfl
theorem Yk {α:Type} {k:Nat}:∀ {rows:List (List α)},(∀r,r∈rows->r.length=k)->rows.flatten.length=rows.length*k
 | [],_=>by simp
 | r::rows,h=>by
  have ih:=Yk (rows:=rows) (fun r hr=>h r (by simp[hr]));have hr:=h r (by simp);simp only[List.flatten_cons,List.length_append,List.length_cons,ih,hr,Nat.add_mul];omega
theorem rows_of_flat {α:Type} {R:α->Value->Prop} {k base:Nat} {rows:List (List α)} {xs:List Value} {vs:Array Value} (hk:∀r,r∈rows->r.length=k) (h:All2 R rows.flatten xs)
 (hx:∀(j:Nat) v,xs[j]?=some v->vs[base+j]?=some v):∀(i:Nat) (r:List α) (j:Nat) (v:α),rows[i]?=some r->r[j]?=some v->∃x,vs[base+i*k+j]?=some x/\R v x:=by
 intro i r j v hi hj;have hr:=hk r (List.mem_of_getElem? hi);have hjk:j<k:=by rw[<-hr];exact (List.getElem?_eq_some_iff.1 hj).1
 have:rows.flatten[i*k+j]?=some v:=by rw[flatten_get hk hjk,hi];exact hj
 obtain ⟨x,h1,h2⟩:=h.get this;exact ⟨x,by rw[Nat.add_assoc];exact hx _ _ h1,h2⟩
theorem flat_of_get {α:Type} {R:α->Value->Prop} {k:Nat} {rows:List (List α)} {f:Nat->Option Value} (hk:∀r,r∈rows->r.length=k)
 (h3:∀(i:Nat) (r:List α) (j:Nat) (v:α),rows[i]?=some r->r[j]?=some v->∃x,f (i*k+j)=some x/\R v x) :
 ∃xs:List Value,All2 R rows.flatten xs/\∀(j:Nat) v,xs[j]?=some v->f j=some v:=by
 have hl:=Yk hk
 have split:∀n,n<rows.flatten.length->∃i j,n=i*k+j/\j<k:=fun n hn=>by
  rcases Nat.eq_zero_or_pos k with h0|h0
  .subst h0;omega
  .exact ⟨n / k,n % k,by rw[Nat.mul_comm];exact (Nat.div_add_mod n k).symm,Nat.mod_lt _ h0⟩
 have at_:∀n v,rows.flatten[n]?=some v->∃x,f n=some x/\R v x:=fun n v hv=>by
  obtain ⟨i,j,rfl,hj⟩:=split n (List.getElem?_eq_some_iff.1 hv).1;rw[flatten_get hk hj]at hv
  cases hr:rows[i]? with
  | none=>simp[hr]at hv
  | some r=>rw[hr]at hv;exact h3 i r j v hr hv
 refine ⟨(List.range rows.flatten.length).map fun n=>(f n).getD undef,All2.of_get (by simp) fun n a b ha hb=>?_,fun n v hv=>?_⟩
 .obtain ⟨x,hx,hr⟩:=at_ n a ha;have:n<rows.flatten.length:=(List.getElem?_eq_some_iff.1 ha).1;rw[List.getElem?_map,List.getElem?_range this]at hb;simp[hx]at hb;subst hb;exact hr
 .have hn:n<rows.flatten.length:=by have:=(List.getElem?_eq_some_iff.1 hv).1;simpa using this
  obtain ⟨x,hx,_⟩:=at_ n _ (List.getElem?_eq_getElem hn);rw[List.getElem?_map,List.getElem?_range hn]at hv;simp[hx]at hv;rw[hx,hv]
theorem Step.newNil (hm:Mem own0 mt w0 ρ H w) {i k:Nat} (hi:H i=none):Step own0 mt w0 ρ H w (upd ρ i (some .nil)) (upd H i (some (.row k []))) w:=by
 have how:∀b,Ow own0 (upd ρ i (some .nil)) (upd H i (some (.row k []))) b->Ow own0 ρ H b:=by
  rintro b (h|⟨j,bs,c,hj,hl⟩)
  .exact .inl h
  .by_cases e:j=i
   .subst e;simp at hj
   .rw[Zg _ _ e]at hj hl;exact .inr ⟨j,bs,c,hj,hl⟩
 refine ⟨sub_upd (hm.defd i hi),.refl _ _,fun b _ h=>how b h,?_⟩
 exact {
  blks:=fun j bl hj=>by
   by_cases e:j=i
   .subst e;simp only[upd_same,Option.some.injEq]at hj;subst hj;exact ⟨by simp,.nil,by simp,rfl⟩
   .rw[Zg _ _ e]at hj;exact (hm.blks j bl hj).mono (.refl _ _) (fun b _ h=>how b h) (sub_upd (hm.defd i hi)) fun _ _ _ _ _=>rfl
  defd:=fun j hj=>by
   by_cases e:j=i
   .subst e;simp at hj
   .rw[Zg _ _ e]at hj ⊢;exact hm.defd j hj
  inj:=fun j j' b c1 k1 b' c' k' hl hl' hj hj' hne=>by
   by_cases e:j=i
   .subst e;simp at hj
   .by_cases e':j'=i
    .subst e';simp at hj'
    .rw[Zg _ _ e]at hj hl;rw[Zg _ _ e']at hj' hl';exact hm.inj j j' _ _ _ _ _ _ hl hl' hj hj' hne
  fresh:=fun j b c k hj=>by
   by_cases e:j=i
   .subst e;simp at hj
   .rw[Zg _ _ e]at hj;exact hm.fresh j _ _ _ hj
  keep:=hm.keep
  own0:=hm.own0
  glob:=hm.glob }
theorem Step.rename (hm:Mem own0 mt w0 ρ H w) {r i:Nat} {blk:Blk} {b base c:Nat} (hr:H r=some blk) (hp:ρ r=some (.blk b base c)) (hi:H i=none)
 (hblk:∀ {w ow ρ ρ'},RepB w ow ρ r blk->ρ r=ρ' i->Sub ρ ρ'->RepB w ow ρ' i blk) :
 Step own0 mt w0 ρ H w (upd ρ i (some (.blk b base c))) (upd (upd H r (some .gone)) i (some blk)) w:=by
 have hne:i≠r:=fun e=>by subst e;rw[hi]at hr;cases hr
 have hs:=sub_upd (m:=.blk b base c) (hm.defd i hi)
 have how:∀x,Ow own0 (upd ρ i (some (.blk b base c))) (upd (upd H r (some .gone)) i (some blk)) x->Ow own0 ρ H x:=by
  rintro x (h|⟨j,bs,c',hj,hl⟩)
  .exact .inl h
  .by_cases e:j=i
   .subst e;simp only[upd_same]at hj hl;cases hj;exact .inr ⟨r,_,_,hp,by rw[hr];exact hl⟩
   .rw[Zg _ _ e]at hj hl;by_cases e':j=r
    .subst e';simp[live]at hl
    .rw[Zg _ _ e']at hl;exact .inr ⟨j,bs,c',hj,hl⟩
 refine ⟨hs,.refl _ _,fun x _ h=>how x h,?_⟩
 have src:∀ {j:Nat},solid (upd (upd H r (some .gone)) i (some blk) j)=true->∀ {m},upd ρ i (some (.blk b base c)) j=some m->∃j',solid (H j')=true/\ρ j'=some m/\(j=i->j'=r)/\(j≠i->j'=j/\j≠r):=by
  intro j hl m hj;by_cases e:j=i
  .subst e;simp only[upd_same]at hj hl;cases hj;exact ⟨r,by rw[hr];exact hl,hp,fun _=>rfl,fun h=>absurd rfl h⟩
  .rw[Zg _ _ e]at hj hl;have e':j≠r:=fun e'=>by subst e';simp[solid]at hl
   rw[Zg _ _ e']at hl;exact ⟨j,hl,hj,fun h=>absurd h e,fun _=>⟨rfl,e'⟩⟩
 exact {
  blks:=fun j bl hj=>by
   by_cases e:j=i
   .subst e;simp only[upd_same,Option.some.injEq]at hj;subst hj;refine hblk ?_ (by rw[hp];simp) hs;exact (hm.blks r _ hr).mono (.refl _ _) (fun x _ h=>how x h) (.refl _) fun _ _ _ _ _=>rfl
   .rw[Zg _ _ e]at hj;by_cases e':j=r
    .subst e';simp only[upd_same,Option.some.injEq]at hj;subst hj;trivial
    .rw[Zg _ _ e']at hj;exact (hm.blks j bl hj).mono (.refl _ _) (fun x _ h=>how x h) hs fun _ _ _ _ _=>rfl
  defd:=fun j hj=>by
   by_cases e:j=i
   .subst e;simp at hj
   .rw[Zg _ _ e]at hj ⊢;by_cases e':j=r
    .subst e';simp at hj
    .rw[Zg _ _ e']at hj;exact hm.defd j hj
  inj:=fun j j' b1 c1 k1 b2 c2 k2 h1 h2 h3 h4 hne'=>by
   obtain ⟨a,ha1,ha2,ha3,ha4⟩:=src h1 h3;obtain ⟨a',hb1,hb2,hb3,hb4⟩:=src h2 h4;refine hm.inj a a' _ _ _ _ _ _ ha1 hb1 ha2 hb2 fun e=>?_;by_cases e1:j=i
   .by_cases e2:j'=i
    .exact hne' (e1.trans e2.symm)
    .have:=hb4 e2;have:=ha3 e1;omega
   .by_cases e2:j'=i
    .have:=ha4 e1;have:=hb3 e2;omega
    .have:=ha4 e1;have:=hb4 e2;omega
  fresh:=fun j b' c' k' hj=>by
   by_cases e:j=i
   .subst e;simp only[upd_same]at hj;cases hj;exact hm.fresh r _ _ _ hp
   .rw[Zg _ _ e]at hj;exact hm.fresh j _ _ _ hj
  keep:=hm.keep
  own0:=hm.own0
  glob:=hm.glob }
end Eng
end Go.Proofs.YtgenjpingdkmgaaGreatDoor
namespace Go.Proofs.YtgenjpingdkmgaaGreatDoor
namespace Eng
section
variable {P:Program} {Γ:Nat->Option Ty} {own0 mt:Nat->Prop} {w0 w:World} {ow:Nat->Prop} {ρ:Nat->Option Pl} {H:Nat->Option Blk} {q:Bool}
 {d':D} {ups:Ups}
theorem run_append_room (ts:Array TypeId) (T t0 t1 e:TypeId) (d1:TypeDesc) (te:Ty) (h0:ts[0]?=some t0) (h1:ts[1]?=some t1) (ht0:P.underlying t0=some (.slice e)) (ht1:P.underlying t1=some d1)
 (hd1:∀k,d1≠.int k) (hte:TyOk P e te) (w:World) (base:Option Addr) (sLen sCap:Nat) (x:Value) (n:Nat) (news:List Value)
 (hl:(Builtin.lenOf x).run P w=.ok n w) (hf:(Builtin.firstCells te.size n x).run P w=.ok news.toArray w) (hroom:sLen+n<=sCap) :
 (Builtin.append_ ts T #[.slice base sLen sCap,x]).run P w =
  match base with
  | some a=>((storeCells (a.add (sLen*te.size)) news).run P w).andThen fun _ w=>.ok (.slice base (sLen+n) sCap) w
  | none=>.ok (.slice base (sLen+n) sCap) w:=by
 have hz:(match d1 with|.int _=>true|_=>false)=false:=by cases d1<;>first|rfl|exact absurd rfl (hd1 _)
 cases base<;>simp[Builtin.append_,h0,h1,run_underlying ht0,run_underlying ht1,Zr hte,hz,hl,hf,hroom]
theorem run_append_grow' (ts:Array TypeId) (T t0 t1 e:TypeId) (d1:TypeDesc) (te:Ty) (h0:ts[0]?=some t0) (h1:ts[1]?=some t1) (ht0:P.underlying t0=some (.slice e)) (ht1:P.underlying t1=some d1)
 (hd1:∀k,d1≠.int k) (hte:TyOk P e te) (w:World) (base:Option Addr) (sLen sCap:Nat) (x:Value) (n:Nat) (olds news:List Value)
 (hl:(Builtin.lenOf x).run P w=.ok n w) (hf':(Builtin.firstCells te.size n x).run P w.drew=.ok news.toArray w.drew)
 (ho:(Builtin.firstCells te.size sLen (.slice base sLen sCap)).run P w.drew=.ok olds.toArray w.drew)
 (hroom:sCap<sLen+n) (h63:sLen+n<=70368744177664) (h48:(sLen+n)*te.bytes<=70368744177664) :
 (Builtin.append_ ts T #[.slice base sLen sCap,x]).run P w =
  .ok (.slice (some ⟨w.heap.size,0,none⟩) (sLen+n) (grownCap w (sLen+n) sCap e)) (w.drew.alloc (.cells (olds++news++(Builtin.zeroCells te.zero.cells (grownCap w (sLen+n) sCap e - (sLen+n))).toList).toArray e)):=by
 have hz:(match d1 with|.int _=>true|_=>false)=false:=by cases d1<;>first|rfl|exact absurd rfl (hd1 _)
 obtain ⟨i,hi,hiz,his,hib⟩:=hte.info;have hn:¬(sLen+n<=sCap):=by omega
 have h63':¬(9223372036854775807<((sLen:Int)+(n:Int))):=by omega
 have h48':¬(281474976710656<Builtin.nextslicecap (sLen+n) sCap*i.bytes):=by
  have:=nextslicecap_le (need:=sLen+n) (old:=sCap) (by omega);have h2:Builtin.nextslicecap (sLen+n) sCap*i.bytes<=(2*(sLen+n))*i.bytes:=Nat.mul_le_mul_right _ this;rw[hib]at h2 ⊢;rw[Nat.mul_assoc]at h2;omega
 simp[Builtin.append_,h0,h1,run_underlying ht0,run_underlying ht1,Zr hte,hz,hl,hn,typeInfo,hi,h63',h48',Question.forced,ho,hf',run_zero hte,newRow,grownCap];congr 2;apply Array.ext';simp
def Source (P:Program) (w:World) (ow:Nat->Prop) (size:Nat) (rs:List (List V)) (u:Value):Prop :=
 (∀w':World,(Builtin.lenOf u).run P w'=.ok rs.length w')/\∃news:List Value,All2 (RepV w ow) rs.flatten news /\
  ∀w':World,(∀a:Addr,w'.cell? a=w.cell? a)->(Builtin.firstCells size rs.length u).run P w'=.ok news.toArray w'
theorem Yq {size:Nat} {rs:List (List V)} (hk:∀r,r∈rs->r.length=size) {a:Option Addr} {c:Nat} (hz:a=none->rs=[])
 (h:∀ad,a=some ad->∀(i:Nat) (r:List V) (j:Nat) (v:V),rs[i]?=some r->r[j]?=some v->∃x,w.cell? (ad.add (i*size+j))=some x/\RepV w ow v x) :
 Source P w ow size rs (.slice a rs.length c):=by
 refine ⟨fun w'=>rfl,?_⟩
 cases a with
 | none=>have:=hz rfl;subst this;exact ⟨[],trivial,fun w' _=>rfl⟩
 | some ad =>
  obtain ⟨xs,h1,h2⟩:=flat_of_get (f:=fun n=>w.cell? (ad.add n)) hk (h ad rfl);refine ⟨xs,h1,fun w' hw'=>?_⟩;exact run_firstCells_some (P:=P) w' size rs.length ad rs.length c xs (by rw[<-h1.length,Yk hk]) fun j v hj=>by rw[hw'];exact h2 j v hj
theorem source_rows (hm:Mem own0 mt w0 ρ H w) {size:Nat} {x:D} {rs:List (List V)} {u:Value} (hx:RepD w (Ow own0 ρ H) ρ x u) (h:rowsOf H x=some rs) (hk:∀r,r∈rs->r.length=size)
 (hlen:∀r n,x=.e (.c (.o r n))->n=rs.length):Source P w (Ow own0 ρ H) size rs u:=by
 unfold rowsOf at h
 split at h
 .cases h;obtain ⟨a,c,rfl,_,hz,hkk,hc⟩:=rep_s (show RepV w _ _ u from hx);rename_i k rows;refine Yq hk hz fun ad ha i r j v hi hj=>?_;obtain ⟨x,h1,h2,_⟩:=hc ad ha i r j v hi hj;have:r.length=k:=hkk i r hi;have h3:r.length=size:=hk r (List.mem_of_getElem? hi);exact ⟨x,by rw[<-h3,this];exact h1,h2⟩
 .cases h;have:=rep_nil hx;subst this;exact Yq (by simp) (by simp) (by simp)
 .rename_i r n
  have key:∀(k:Nat) (rows:List (List V)) (blk:Blk),(blk=.row k rows\/blk=.ice k rows)->H r=some blk->rs=rows.take n->Source P w (Ow own0 ρ H) size rs u:=by
   intro k rows blk hblk hb hrs;have hn:=hlen r n rfl;obtain ⟨hrl,m,hm',h⟩:=row_of_blk hblk (hm.blks r _ hb);obtain ⟨m',hm'',hc⟩:=hx;rw[hm']at hm'';cases hm''
   cases m with
   | nil =>
    obtain ⟨rfl,a,rfl⟩:=hc;have h0:rs=[]:=by rw[hrs];try rfl
    subst h0
    exact Yq (by simp) (by simp) (by simp)
   | blk b base cap =>
    obtain ⟨rfl,hle⟩:=hc;obtain ⟨hcap,vs,T,fr,hh,hf,h2,h3⟩:=h;subst hn;refine Yq hk (by simp) fun ad ha i r' j v hi hj=>?_;cases ha
    have hi':rows[i]?=some r':=by
     rw[hrs,List.getElem?_take]at hi
     split at hi
     .exact hi
     .cases hi
    obtain ⟨x,hx1,hx2⟩:=h3 i r' j v hi' hj;have e1:r'.length=k:=hrl r' (List.mem_of_getElem? hi');have e2:r'.length=size:=hk r' (List.mem_of_getElem? hi);refine ⟨x,?_,hx2⟩;rw[Zw,Yi hh,<-e2,e1,<-Nat.add_assoc];exact hx1
  split at h
  .rename_i hb;cases h;exact key _ _ _ (.inl rfl) hb rfl
  .rename_i hb;cases h;exact key _ _ _ (.inr rfl) hb rfl
  .cases h
 .cases h
theorem source_string {s:ByteArray} {size:Nat} (hk:∀r,r∈bytesRows s->r.length=size):Source P w ow size (bytesRows s) (.string s):=by
 have hl:(bytesRows s).length=s.size:=by simp[bytesRows]
 refine ⟨fun w'=>by simp[Builtin.lenOf,hl],s.data.toList.map fun b=>.int .u8 b.toNat,?_,fun w' _=>?_⟩
 .have:(bytesRows s).flatten=s.data.toList.map fun b=>.x (.int .u8 b.toNat):=by
   unfold bytesRows
   induction s.data.toList with
   | nil=>rfl
   | cons b r ih=>simp[ih]
  rw[this]
  induction s.data.toList with
  | nil=>trivial
  | cons b r ih=>exact ⟨RepV.x _ rfl,ih⟩
 .simp only[Builtin.firstCells,hl,Sem.run_pure];have:s.extract 0 s.size=s:=by simp
  rw[this];congr 1;apply Array.ext';simp
theorem zeroCells_len {te:Ty} {e:TypeId} (hte:TyOk P e te) (n:Nat):(Builtin.zeroCells te.zero.cells n).size=n*te.size:=by
 rw[size_zeroCells,hte.zsize]
theorem newRow_step (hm:Mem own0 mt w0 ρ H w) {nx:Nat} (hnx:H nx=none) {te:Ty} {e:TypeId} (hte:TyOk P e te) {rows:List (List V)} {xs:List Value} (hk:∀r,r∈rows->r.length=te.size)
 (h:All2 (RepV w (Ow own0 ρ H)) rows.flatten xs) {cap:Nat} (hcap:rows.length<=cap) (zs:List Value) (hz:zs.length=(cap - rows.length)*te.size) (T:TypeId) :
 Step own0 mt w0 ρ H w (upd ρ nx (some (.blk w.heap.size 0 cap))) (upd H nx (some (.row te.size rows))) (w.alloc (.cells (xs++zs).toArray T (0,0))):=by
 have hxl:xs.length=rows.length*te.size:=by rw[<-h.length,Yk hk]
 have hsum:rows.length*te.size+(cap - rows.length)*te.size=cap*te.size:=by rw[<-Nat.add_mul];congr 1;omega
 refine Step.new hm hnx ⟨hk,.blk w.heap.size 0 cap,by rw[upd_same],hcap,_,T,(0,0),heap_alloc_new _ _,⟨.inl rfl,.inr rfl⟩,?_,?_⟩
 .simp[hxl,hz];omega
 .refine rows_of_flat hk (h.mono fun _ _ h=>h.mono (Keep.alloc _ _ _) fun b hb' h=>ow_alloc hm hnx _ hb' h) fun j v hj=>?_;have:=(List.getElem?_eq_some_iff.1 hj).1;simp only[Nat.zero_add,List.getElem?_toArray];rw[List.getElem?_append_left this];exact hj
theorem append_core (hm:Mem own0 mt w0 ρ H w) {nx:Nat} (hnx:H nx=none) {te:Ty} {t0 t1 e:TypeId} {d1:TypeDesc} (ht0:P.underlying t0=some (.slice e)) (ht1:P.underlying t1=some d1)
 (hd1:∀k,d1≠.int k) (hte:TyOk P e te) {ts:Array TypeId} (h0:ts[0]?=some t0) (h1:ts[1]?=some t1) (T:TypeId) {olds rs:List (List V)} {us ux:Value}
 {base:Option Addr} {sCap:Nat} (hus:us=.slice base olds.length sCap) (ho:Source P w (Ow own0 ρ H) te.size olds us) (hx:Source P w (Ow own0 ρ H) te.size rs ux) (hko:∀r,r∈olds->r.length=te.size) (hkr:∀r,r∈rs->r.length=te.size)
 (hroom:sCap<olds.length+rs.length) (h48:(olds.length+rs.length)*te.bytes<=70368744177664) (h63:olds.length+rs.length<=70368744177664) :
 MRun P own0 mt w0 ρ H w (Builtin.append_ ts T #[us,ux]) [(nx,.row te.size (olds++rs))] fun w' ow' ρ' v=>RepD w' ow' ρ' (.e (.c (.o nx (olds.length+rs.length)))) v:=by
 subst hus;obtain ⟨hxl,news,hxn,hxf⟩:=hx;obtain ⟨_,old,hon,hof⟩:=ho;have hcell:∀a:Addr,w.drew.cell? a=w.cell? a:=fun a=>rfl;have hrun:=run_append_grow' (P:=P) ts T t0 t1 e d1 te h0 h1 ht0 ht1 hd1 hte w base olds.length sCap ux rs.length old news (hxl w) (hxf w.drew hcell) (hof w.drew hcell) hroom h63 h48;have hge:=grownCap_ge w (olds.length+rs.length) sCap e
 have hkk:∀r,r∈olds++rs->r.length=te.size:=fun r hr=>by
  rcases List.mem_append.1 hr with h|h
  .exact hko r h
  .exact hkr r h
 have hfl:All2 (RepV w (Ow own0 ρ H)) (olds++rs).flatten (old++news):=by rw[List.flatten_append];exact hon.append hxn
 have hst:=newRow_step (Step.drew hm).mem hnx hte (rows:=olds++rs) (cap:=grownCap w (olds.length+rs.length) sCap e) hkk (hfl.mono fun _ _ h=>h.mono (Keep.drew _ _) fun _ _ h=>h) (by simpa using hge)
  (Builtin.zeroCells te.zero.cells (grownCap w (olds.length+rs.length) sCap e - (olds.length+rs.length))).toList (by simp[zeroCells_len hte]) e
 exact ⟨_,_,_,hrun,(Step.drew hm).trans hst,.blk w.drew.heap.size 0 (grownCap w (olds.length+rs.length) sCap e),by rw[upd_same],rfl,hge⟩
theorem append_room_core (hm:Mem own0 mt w0 ρ H w) {nx r:Nat} (hnx:H nx=none) {te:Ty} {t0 t1 e:TypeId} {d1:TypeDesc} (ht0:P.underlying t0=some (.slice e)) (ht1:P.underlying t1=some d1)
 (hd1:∀k,d1≠.int k) (hte:TyOk P e te) {ts:Array TypeId} (h0:ts[0]?=some t0) (h1:ts[1]?=some t1) (T:TypeId) {rows rs:List (List V)} {n:Nat} {ux:Value}
 {b base cap:Nat} (hr:H r=some (.row te.size rows)) (hp:ρ r=some (.blk b base cap)) (hn:n<=rows.length) (hx:Source P w (Ow own0 ρ H) te.size rs ux) (hkr:∀r,r∈rs->r.length=te.size)
 (hroom:n+rs.length<=cap) :
 MRun P own0 mt w0 ρ H w (Builtin.append_ ts T #[.slice (some ⟨b,base,none⟩) n cap,ux]) [(r,.gone),(nx,.row te.size (rows.take n++rs))] fun w' ow' ρ' v=>RepD w' ow' ρ' (.e (.c (.o nx (n+rs.length)))) v:=by
 obtain ⟨hxl,news,hxn,hxf⟩:=hx;have hrun:=run_append_room (P:=P) ts T t0 t1 e d1 te h0 h1 ht0 ht1 hd1 hte w (some ⟨b,base,none⟩) n cap ux rs.length news (hxl w) (hxf w fun _=>rfl) hroom;obtain ⟨hrl,m,hm',h⟩:=hm.blks r _ hr;rw[hp]at hm';cases hm';obtain ⟨hcap,vs,T',fr,hh,hf,h2,h3⟩:=h;have hnl:news.length=rs.length*te.size:=by rw[<-hxn.length,Yk hkr]
 have hmul:(n+rs.length)*te.size<=cap*te.size:=Nat.mul_le_mul_right _ hroom;rw[Nat.add_mul]at hmul
 have hone:∀x,x∈news->x.oneCell=true:=fun x hx=>by
  obtain ⟨j,hj⟩:=List.getElem?_of_mem hx;have hjl:=(List.getElem?_eq_some_iff.1 hj).1;have h':=hxn.length;obtain ⟨y,hy,hr⟩:=hxn.get (i:=j) (List.getElem?_eq_getElem (by omega));rw[hj]at hy;cases hy;exact hr.oneCell
 have hst:=Yz (P:=P) (b:=b) (o:=base+n*te.size) news 0 vs w hh hf.1 (by omega) hone;simp only[Nat.add_zero]at hst;simp only[Zw,hst,Result.andThen_ok]at hrun;have hlive:live (H r)=true:=by rw[hr];rfl
 have hkk:∀r',r'∈rows.take n++rs->r'.length=te.size:=fun r' hr'=>by
  rcases List.mem_append.1 hr' with h|h
  .exact hrl r' (List.mem_of_mem_take h)
  .exact hkr r' h
 obtain ⟨olds,ho1,ho2⟩:=flat_of_get (rows:=rows.take n) (f:=fun j=>vs[base+j]?) (fun r' h=>hrl r' (List.mem_of_mem_take h)) (R:=RepV w (Ow own0 ρ H)) fun i r' j v hi hj=>by
  rw[List.getElem?_take]at hi
  split at hi
  .obtain ⟨x,hx1,hx2⟩:=h3 i r' j v hi hj;exact ⟨x,by rw[<-Nat.add_assoc];exact hx1,hx2⟩
  .cases hi
 have hol:olds.length=n*te.size:=by
  rw[<-ho1.length,Yk fun r' h=>hrl r' (List.mem_of_mem_take h)];simp[Nat.min_eq_left hn]
 have hstep1:Step own0 mt w0 ρ H w ρ (upd H r (some (.row te.size (rows.take n++rs)))) (setBlk w b (.cells (splice vs.toList (base+n*te.size) news).toArray T' fr)):=by
  refine Step.write hm hp hlive rfl ⟨hkk,_,hp,by simp;omega,_,T',fr,Yh (Array.getElem?_eq_some_iff.1 hh).1,rFr_splice hf (by omega),?_,?_⟩
  .simp;rw[Yj (by simp;omega)];simpa using h2
  .have hfl:All2 (RepV w (Ow own0 ρ H)) (rows.take n++rs).flatten (olds++news):=by rw[List.flatten_append];exact ho1.append hxn
   refine rows_of_flat hkk (hfl.mono fun _ _ h=>h.mono (Keep.setBlk (.inr ⟨r,_,_,hp,hlive⟩) _) fun _ _ h=>h) fun j v hj=>?_;simp only[List.getElem?_toArray,splice];have hbn:(List.take (base+n*te.size) vs.toList).length=base+n*te.size:=by simp;omega
   by_cases hjn:j<n*te.size
   .rw[List.getElem?_append_left (by omega)]at hj;have h4:=ho2 j v hj;rw[List.getElem?_append_left (by rw[List.length_append,hbn];omega),List.getElem?_append_left (by rw[hbn];omega),List.getElem?_take,if_pos (by omega)];simpa using h4
   .rw[List.getElem?_append_right (by omega),hol]at hj;have hjl:=(List.getElem?_eq_some_iff.1 hj).1;rw[List.getElem?_append_left (by rw[List.length_append,hbn];omega),List.getElem?_append_right (by rw[hbn];omega),hbn];rw[show base+j - (base+n*te.size)=j - n*te.size by omega];exact hj
 have hne:nx≠r:=fun e=>by subst e;rw[hnx]at hr;cases hr
 have hstep2:=Step.rename hstep1.mem (r:=r) (i:=nx) (blk:=.row te.size (rows.take n++rs)) (by simp) hp (by rw[Zg _ _ hne];exact hnx) (fun {w ow ρ ρ'} hB e _=>by
  obtain ⟨hk,m,hm,h⟩:=hB
  exact ⟨hk,m,by rw[<-e];exact hm,h⟩)
 have hH:upd (upd (upd H r (some (.row te.size (rows.take n++rs)))) r (some .gone)) nx (some (.row te.size (rows.take n++rs)))=upd (upd H r (some .gone)) nx (some (.row te.size (rows.take n++rs))):=by
  funext j;unfold upd;split<;>(try rfl)<;>split<;>rfl
 rw[hH]at hstep2;exact ⟨_,_,_,hrun,hstep1.trans hstep2,.blk b base cap,by rw[upd_same],rfl,hroom⟩
end
end Eng
end Go.Proofs.YtgenjpingdkmgaaGreatDoor
namespace Go.Proofs.YtgenjpingdkmgaaGreatDoor
namespace Eng
variable {P:Program} {Γ:Nat->Option Ty} {own0 mt:Nat->Prop} {w0 w:World} {ow:Nat->Prop} {ρ:Nat->Option Pl} {H:Nat->Option Blk} {q:Bool}
 {d':D} {ups:Ups}
theorem append_empty {ts:Array TypeId} {T t0 t1 e:TypeId} {d1:TypeDesc} {te:Ty} (h0:ts[0]?=some t0) (h1:ts[1]?=some t1) (ht0:P.underlying t0=some (.slice e)) (ht1:P.underlying t1=some d1)
 (hd1:∀k,d1≠.int k) (hte:TyOk P e te) {a:Option Addr} {ux:Value} (hx:Source P w ow te.size [] ux):(Builtin.append_ ts T #[.slice a 0 0,ux]).run P w=.ok (.slice a 0 0) w:=by
 obtain ⟨hxl,news,hxn,hxf⟩:=hx
 have hn:news=[]:=by
  have:=hxn.length;simp at this;exact List.eq_nil_of_length_eq_zero (by simpa using this.symm)
 subst hn;have:=run_append_room (P:=P) ts T t0 t1 e d1 te h0 h1 ht0 ht1 hd1 hte w a 0 0 ux 0 [] (hxl w) (hxf w fun _=>rfl) (by omega);rw[this];cases a<;>simp[storeCells]
theorem append_sound (hΓ:TysOk P Γ) (hm:Mem own0 mt w0 ρ H w) {nx:Nat} (hnx:H nx=none) {ts:Array TypeId} {s x:D} {us ux:Value} (hs:RepD w (Ow own0 ρ H) ρ s us) (hx:RepD w (Ow own0 ρ H) ρ x ux) (T:TypeId)
 (hg:(appendE Γ ts H nx s x).gives P (d',ups)):MRun P own0 mt w0 ρ H w (Builtin.append_ ts T #[us,ux]) ups fun w' ow' ρ' v=>RepD w' ow' ρ' d' v:=by
 unfold appendE at hg
 split at hg
 .rename_i t0 t1 h0 h1
  split at hg
  .rename_i ty0 ty1 hy0 hy1;have ht0:=(hΓ _ _ hy0).under;have ht1:=(hΓ _ _ hy1).under
   split at hg
   .rename_i e hdesc;rw[hdesc]at ht0
    split at hg
    .rename_i te hte;have hte:=hΓ _ _ hte;dsimp only at hg
     split at hg
     .rename_i rs hnew
      have hd1:∀k,ty1.desc≠.int k:=by
       intro k h;rw[h]at hnew;simp at hnew
      have hsrc:(∀r,r∈rs->r.length=te.size)->(∀r n,x=.e (.c (.o r n))->n=rs.length)->Source P w (Ow own0 ρ H) te.size rs ux:=by
       intro hk hlen
       split at hnew
       .split at hnew
        .cases hnew;have:=(rep_x hx).1;subst this;exact source_string hk
        .cases hnew
       .exact source_rows hm hx hnew hk hlen
       .cases hnew
      split at hg
      .obtain ⟨⟨hsz,hk,h48,h63,hlen⟩,hg⟩:=hg;have hg':(d',ups)=(_,_):=hg;cases hg';have:=rep_nil hs;subst this;have hsrc:=hsrc hk hlen;by_cases hr0:rs=[]
       .subst hr0;refine ⟨_,w,_,append_empty h0 h1 ht0 ht1 hd1 hte hsrc,Step.newNil hm hnx,.nil,by rw[upd_same],rfl,none,rfl⟩
       .have hpos:0<rs.length:=List.length_pos_iff.2 hr0;have:=append_core hm hnx ht0 ht1 hd1 hte h0 h1 T (olds:=[]) (us:=.slice none 0 0) rfl (Yq (by simp) (by simp) (by simp)) hsrc (by simp) hk (by simpa using hpos) (by simpa using h48) (by simpa using h63);simpa using this
      .rename_i r n
       split at hg
       .rename_i k rows hr;obtain ⟨⟨rfl,hsz,hn,hk,h48,h63,hlen⟩,hg⟩:=hg;have hg':(d',ups)=(_,_):=hg;cases hg';have hsrc:=hsrc hk hlen;have hs0:=hs;obtain ⟨hrl,m,hm',hrow⟩:=hm.blks r _ hr;obtain ⟨m',hm'',hc⟩:=hs;rw[hm']at hm'';cases hm'';have hne:nx≠r:=fun e=>by subst e;rw[hnx]at hr;cases hr
        cases m with
        | nil =>
         obtain ⟨rfl,a,rfl⟩:=hc;by_cases hr0:rs=[]
         .subst hr0;have hkill:=Step.kill hm r;refine ⟨_,w,_,append_empty h0 h1 ht0 ht1 hd1 hte hsrc,hkill.trans (Step.newNil hkill.mem (by rw[Zg _ _ hne];exact hnx)),.nil,by rw[upd_same],rfl,a,rfl⟩
         .have hpos:0<rs.length:=List.length_pos_iff.2 hr0;have hkill:=Step.kill hm r
          have up:∀ {rs:List (List V)} {u:Value},Source P w (Ow own0 ρ H) te.size rs u->Source P w (Ow own0 ρ (upd H r (some .gone))) te.size rs u:=fun {rs u} h=>by
           obtain ⟨h1,news,h2,h3⟩:=h;exact ⟨h1,news,h2.mono fun _ _ h=>h.mono (Keep.refl _ _) hkill.ow,h3⟩
          obtain ⟨v,w',ρ',h1,h2,h3⟩:=append_core hkill.mem (by rw[Zg _ _ hne];exact hnx) ht0 ht1 hd1 hte h0 h1 T (olds:=[]) (us:=.slice a 0 0) rfl (Yq (by simp) (by simp) (by simp)) (up hsrc) (by simp) hk (by simpa using hpos) (by simp at h48 ⊢;omega) (by simp at h63 ⊢;omega);refine ⟨v,w',ρ',h1,hkill.trans ?_,?_⟩
          .simpa[updL] using h2
          .simpa[updL] using h3
        | blk b base cap =>
         obtain ⟨rfl,hle⟩:=hc;by_cases hroom:n+rs.length<=cap
         .exact append_room_core hm hnx ht0 ht1 hd1 hte h0 h1 T hr hm' hn hsrc hk hroom
         .have hkill:=Step.kill hm r
          have hold:Source P w (Ow own0 ρ H) te.size (rows.take n) (.slice (some ⟨b,base,none⟩) n cap) :=
           source_rows hm (x:=.e (.c (.o r n))) hs0 (by simp[rowsOf,hr]) (fun r' h=>hrl r' (List.mem_of_mem_take h)) (fun r' n' h=>by cases h;simp;omega)
          have up:∀ {rs:List (List V)} {u:Value},Source P w (Ow own0 ρ H) te.size rs u->Source P w (Ow own0 ρ (upd H r (some .gone))) te.size rs u:=fun {rs u} h=>by
           obtain ⟨h1,news,h2,h3⟩:=h;exact ⟨h1,news,h2.mono fun _ _ h=>h.mono (Keep.refl _ _) hkill.ow,h3⟩
          have htl:(rows.take n).length=n:=by simp;omega
          obtain ⟨v,w',ρ',h1,h2,h3⟩:=append_core hkill.mem (by rw[Zg _ _ hne];exact hnx) ht0 ht1 hd1 hte h0 h1 T (olds:=rows.take n) (us:=.slice (some ⟨b,base,none⟩) n cap) (by rw[htl]) (up hold) (up hsrc)
           (fun r' h=>hrl r' (List.mem_of_mem_take h)) hk (by rw[htl];omega) (by rw[htl];exact h48) (by rw[htl];exact h63)
          rw[htl]at h3;exact ⟨v,w',ρ',h1,hkill.trans h2,h3⟩
       .exact hg.elim
      .exact hg.elim
     .exact hg.elim
    .exact hg.elim
   .exact hg.elim
  .exact hg.elim
 .exact hg.elim
theorem fillE_sound {place:Nat->Option (Nat×Nat)}:∀ {parts:List (Nat×D)} {us:List (Nat×Value)} {cells cs:List C} {vs:List Value},fillE place cells parts=some cs ->
 All2 (fun p u=>p.1=u.1/\RepD w ow ρ p.2 u.2) parts us->All2 (RepC w ow ρ) cells vs->∃vs',Instr.fill place vs.toArray us=some vs'/\All2 (RepC w ow ρ) cs vs'.toList
 | [],[],cells,cs,vs,h,_,hc=>by cases h;exact ⟨_,rfl,by simpa using hc⟩
 | (i,d)::rest,(i',u)::us,cells,cs,vs,h,⟨⟨h1,h2⟩,h3⟩,hc=>by
  dsimp only at h1 h2;subst h1
  cases d with
  | e e =>
   simp only[fillE]at h
   split at h
   .rename_i off size hp
    split at h
    .rename_i hs;have he:=rep_cells h2;have hcl:=hc.length;obtain ⟨vs',hv,ha⟩:=fillE_sound h h3 (all2_splice (off:=off) hc he.1);refine ⟨vs',?_,ha⟩;have hus:u.cells.size=size:=by rw[<-he.2];exact hs.1
     have hle:¬(off+u.cells.size>vs.length):=by omega
     simp only[Instr.fill,hp];rw[if_neg (by simp;omega)];rw[<-hv];congr 1
     have key:∀(xs:List Value) (j:Nat) (a:Array Value),off+j+xs.length<=a.size ->
      (xs.zipIdx j).foldl (fun (cs:Array Value) (x:Value×Nat)=>cs.setIfInBounds (off+x.2) x.1) a=(splice a.toList (off+j) xs).toArray:=by
      intro xs
      induction xs with
      | nil=>intro j a _;simp[splice_nil]
      | cons x xs ih =>
       intro j a hl;simp only[List.zipIdx_cons,List.foldl_cons];simp at hl;rw[ih (j+1) _ (by simp;omega),Array.toList_setIfInBounds,<-Nat.add_assoc,splice_cons (by simp;omega)]
     have h0:=key u.cells.toList 0 vs.toArray (by simp;omega);simp only[Nat.add_zero]at h0;rw[<-Array.foldl_toList,Array.toList_zipIdx];exact h0
    .cases h
   .cases h
  | _=>simp[fillE]at h
 | [],_::_,_,_,_,_,h,_=>h.elim
 | _::_,[],_,_,_,_,h,_=>h.elim
end Eng
end Go.Proofs.YtgenjpingdkmgaaGreatDoor
namespace Go.Proofs.YtgenjpingdkmgaaGreatDoor
namespace Eng
variable {P:Program} {Γ:Nat->Option Ty} {own0 mt:Nat->Prop} {w0 w:World} {ow:Nat->Prop} {ρ:Nat->Option Pl} {H:Nat->Option Blk} {q:Bool}
 {d':D} {ups:Ups}
theorem all2_zero {t:TypeId} {ty:Ty} (ht:TyOk P t ty):All2 (RepC w ow ρ) (ty.zero.cells.toList.map fun c=>.v (.x c)) ty.zero.cells.toList:=by
 obtain ⟨e,_,he,hc⟩:=rep_ofVal (w:=w) (ow:=ow) (ρ:=ρ) ty.zero ht.zok;rw[<-hc];exact (rep_cells he).1
theorem mapM_places (hΓ:TysOk P Γ):∀(fs:List Field),(∀f,f∈fs->(Γ f.type).isSome=true) ->
 (fs.mapM fun (f:Field)=>(do pure (f.offset,<-sizeOf f.type):Sem (Nat×Nat))).run P w=.ok (fs.map fun f=>(f.offset,((Γ f.type).map (·.size)).getD 0)) w
 | [],_=>rfl
 | f::fs,h=>by
  have hf:=h f (by simp);obtain ⟨tf,htf⟩:=Option.isSome_iff_exists.1 hf;have ih:=mapM_places hΓ fs fun f hf=>h f (by simp[hf]);simp only[List.mapM_cons,Sem.run_bind,Zr (hΓ _ _ htf),Result.andThen_ok,Sem.run_pure,ih];simp[htf]
theorem build_sound (hΓ:TysOk P Γ) {t:TypeId} {ty:Ty} (ht:TyOk P t ty) {parts:List (Nat×D)} {us:Array (Nat×Value)} (hp:All2 (fun p u=>p.1=u.1/\RepD w ow ρ p.2 u.2) parts us.toList)
 (hg:(buildE Γ ty parts).gives P (d',ups)):ups=[]/\∃r,(Instr.build t us).run P w=.ok r w/\RepD w ow ρ d' r:=by
 unfold buildE at hg;obtain ⟨hok,hg⟩:=hg;have hu:=ht.under
 split at hg
 .rename_i cs hfill;have hg':(d',ups)=(_,_):=hg;cases hg';obtain ⟨vs',hv,ha⟩:=fillE_sound hfill hp (all2_zero (w:=w) (ow:=ow) (ρ:=ρ) ht);refine ⟨rfl,.agg vs',?_,vs'.toList,by simp,ha⟩;simp only[Array.toArray_toList]at hv
  cases hdesc:ty.desc with
  | struct fs =>
   rw[hdesc]at hu
   have hall:∀f,f∈fs.toList->(Γ f.type).isSome=true:=by
    simp only[buildOk,hdesc]at hok;exact fun f hf=>List.all_eq_true.1 hok f hf
   have hpl:placeD Γ ty=placeE Γ fs:=by funext i;simp only[placeD,hdesc]
   rw[hpl]at hv;have hmap:=mapM_places (P:=P) (w:=w) hΓ fs.toList hall
   have hfun:(fun (i:Nat)=>(fs.map fun (f:Field)=>(f.offset,((Γ f.type).map (·.size)).getD 0))[i]?)=placeE Γ fs:=by
    funext i
    cases hi:fs[i]? with
    | none=>simp[placeE,hi]
    | some f =>
     obtain ⟨tf,htf⟩:=Option.isSome_iff_exists.1 (hall f (by
      have:=Array.mem_of_getElem? hi
      simpa using this))
     simp[placeE,hi,htf]
   have hmapA:(fs.mapM fun (f:Field)=>(do pure (f.offset,<-sizeOf f.type):Sem (Nat×Nat))).run P w=.ok (fs.map fun f=>(f.offset,((Γ f.type).map (·.size)).getD 0)) w:=by
    rw[Array.mapM_eq_mapM_toList];simp only[Sem.run_map,hmap,Result.andThen_ok];congr 1;apply Array.ext';simp
   unfold Instr.build;simp only[Sem.run_bind,run_zero ht,Result.andThen_ok,run_underlying hu,hmapA,hfun]
   rw[hv];rfl
  | array n e =>
   rw[hdesc]at hu
   have hte:∃te,Γ e=some te:=by
    simp only[buildOk,hdesc]at hok;exact Option.isSome_iff_exists.1 hok
   obtain ⟨te,hte⟩:=hte;have hpl:placeD Γ ty=fun i=>some (i*te.size,te.size):=by funext i;simp only[placeD,hdesc,hte]
   rw[hpl]at hv;unfold Instr.build;simp only[Sem.run_bind,run_zero ht,Result.andThen_ok,run_underlying hu,Zr (hΓ _ _ hte)]
   rw[hv];rfl
  | _=>simp only[buildOk,hdesc]at hok;cases hok
 .exact hg.elim
theorem partsE_sound {size:Nat}:∀ {parts:List (Nat×D)} {us:List (Nat×Value)} {H:Nat->Option Blk} {j:Nat} {rows:List (List V)} {ups:Ups} {p:Prop} {zs:List Value},Mem own0 mt w0 ρ H w ->
 partsE size H j parts=some (rows,ups,p)->p->All2 (fun p u=>p.1=u.1/\RepD w (Ow own0 ρ H) ρ p.2 u.2) parts us->zs.length=(j+rows.length)*size ->
 Step own0 mt w0 ρ H w ρ (updL H ups) w/\(∀r,r∈rows->r.length=size)/\rows.length=parts.length/\∃xs,All2 (RepV w (Ow own0 ρ (updL H ups))) rows.flatten xs/\Instr.fill (fun i=>some (i*size,size)) zs.toArray us=some (zs.take (j*size)++xs).toArray
 | [],[],H,j,rows,ups,p,zs,hm,h,_,_,hl=>by
  cases h;refine ⟨Step.refl hm,by simp,rfl,[],trivial,?_⟩;simp only[Instr.fill,List.append_nil]
  rw[List.take_of_length_le (by rw[hl];simp)]
 | (i,d)::rest,(i',u)::us,H,j,rows,ups,p,zs,hm,h,hp,⟨⟨h1,h2⟩,h3⟩,hl=>by
  dsimp only at h1 h2;subst h1
  cases d with
  | e e =>
   simp only[partsE]at h
   split at h
   .rename_i vs u1 p1 hvs
    split at h
    .rename_i rows' u2 p2 hr;cases h;obtain ⟨⟨rfl,hsz,hp1⟩,hp2⟩:=hp;have he:=rep_cells h2;obtain ⟨s1,hv⟩:=Yp hm hvs hp1 he.1;have hvl:=hv.length;have hus:u.cells.size=size:=by rw[<-hsz,hvl];simp
     simp only[List.length_cons]at hl
     have hmul:i*size+size<=zs.length:=by
      rw[hl];have:=Nat.mul_le_mul_right size (show i+1<=i+(rows'.length+1) by omega);rw[Nat.add_mul]at this;omega
     obtain ⟨s2,k1,k2,xs,k3,k4⟩:=partsE_sound (zs:=splice zs (i*size) u.cells.toList) s1.mem hr hp2 (h3.mono fun _ _ h=>⟨h.1,h.2.mono s1.keep s1.ow s1.sub⟩) (by rw[Yj (by simp;omega),hl];congr 1;omega);refine ⟨by rw[Z7];exact s1.trans s2,fun r hr=>?_,by simp[k2],u.cells.toList++xs,?_,?_⟩
     .rcases List.mem_cons.1 hr with rfl|h
      .exact hsz
      .exact k1 r h
     .simp only[List.flatten_cons];rw[Z7];exact (hv.mono fun _ _ h=>RepV.mono h s2.keep s2.ow).append k3
     .have key:∀(ys:List Value) (j:Nat) (a:Array Value),i*size+j+ys.length<=a.size ->
       (ys.zipIdx j).foldl (fun (cs:Array Value) (x:Value×Nat)=>cs.setIfInBounds (i*size+x.2) x.1) a=(splice a.toList (i*size+j) ys).toArray:=by
       intro ys
       induction ys with
       | nil=>intro j a _;simp[splice_nil]
       | cons y ys ih =>
        intro j a hl;simp only[List.zipIdx_cons,List.foldl_cons];simp at hl;rw[ih (j+1) _ (by simp;omega),Array.toList_setIfInBounds,<-Nat.add_assoc,splice_cons (by simp;omega)]
      have h0:=key u.cells.toList 0 zs.toArray (by simp;omega);simp only[Nat.add_zero]at h0;simp only[Instr.fill];rw[if_neg (by simp;omega),<-Array.foldl_toList,Array.toList_zipIdx];refine (congrArg (fun a=>Instr.fill (fun i=>some (i*size,size)) a us) h0).trans ?_;rw[k4];congr 2;rw[Nat.add_mul,Nat.one_mul];unfold splice;have hus':u.cells.toList.length=size:=by simpa using hus
      have htl:(List.take (i*size) zs).length=i*size:=by rw[List.length_take];omega
      rw[List.take_append_of_le_length (by rw[List.length_append,htl,hus'];omega),List.take_of_length_le (by rw[List.length_append,htl,hus'];omega)];simp
    .cases h
   .cases h
  | _=>simp[partsE]at h
 | [],_::_,_,_,_,_,_,_,_,_,_,h,_=>h.elim
 | _::_,[],_,_,_,_,_,_,_,_,_,h,_=>h.elim
theorem frzCs_fresh {i:Nat}:∀ {cs:List C} {H:Nat->Option Blk} {vs:List V} {ups:Ups} {p:Prop},frzCs H cs=some (vs,ups,p)->H i=none->updL H ups i=none
 | [],_,_,_,_,h,hi=>by cases h;exact hi
 | .v a::r,H,vs,ups,p,h,hi=>by
  simp only[frzCs]at h
  split at h
  .rename_i hr;cases h;exact frzCs_fresh hr hi
  .cases h
 | .o r n::cs,H,vs,ups,p,h,hi=>by
  simp only[frzCs]at h
  split at h
  .rename_i v u1 p1 hc
   split at h
   .rename_i hr;cases h;rw[Z7];refine frzCs_fresh hr ?_;simp only[frzC]at hc
    split at hc
    .rename_i k rows hr';cases hc;have:i≠r:=fun e=>by subst e;rw[hi]at hr';cases hr'
     simpa[updL,Zg _ _ this] using hi
    .cases hc;exact hi
    .cases hc
   .cases h
  .cases h
theorem partsE_fresh {i size:Nat}:∀ {parts:List (Nat×D)} {H:Nat->Option Blk} {j:Nat} {rows:List (List V)} {ups:Ups} {p:Prop},partsE size H j parts=some (rows,ups,p)->H i=none->updL H ups i=none
 | [],_,_,_,_,_,h,hi=>by cases h;exact hi
 | (k,d)::rest,H,j,rows,ups,p,h,hi=>by
  cases d with
  | e e =>
   simp only[partsE]at h
   split at h
   .rename_i hvs
    split at h
    .rename_i hr;cases h;rw[Z7];exact partsE_fresh hr (frzCs_fresh hvs hi)
    .cases h
   .cases h
  | _=>simp[partsE]at h
theorem buildSlice_sound (hΓ:TysOk P Γ) (hm:Mem own0 mt w0 ρ H w) {nx:Nat} (hnx:H nx=none) {t:TypeId} {ty:Ty} (ht:TyOk P t ty) {n:Nat} {parts:List (Nat×D)} {us:Array (Nat×Value)}
 (hp:All2 (fun p u=>p.1=u.1/\RepD w (Ow own0 ρ H) ρ p.2 u.2) parts us.toList) (hg:(buildSliceE Γ ty H n nx parts).gives P (d',ups)) :
 MRun P own0 mt w0 ρ H w (Instr.buildSlice t n us) ups fun w' ow' ρ' v=>RepD w' ow' ρ' d' v:=by
 unfold buildSliceE at hg;have hu:=ht.under
 split at hg
 .rename_i e hdesc;rw[hdesc]at hu
  split at hg
  .rename_i te hte;have hte:=hΓ _ _ hte
   split at hg
   .rename_i rows u1 p1 hrows;obtain ⟨⟨hp1,rfl,hsz,hbig⟩,hg⟩:=hg;have hg':(d',ups)=(_,_):=hg;cases hg';let zs:List Value:=((Array.range (rows.length*te.size)).map (fun j=>te.zero.cells[j % te.zero.cells.size]!)).toList
    have hzl:zs.length=rows.length*te.size:=by simp[zs]
    obtain ⟨s1,k1,k2,xs,k3,k4⟩:=partsE_sound (j:=0) (zs:=zs) hm hrows hp1 hp (by simpa using hzl);have hst:=newRow_step s1.mem (partsE_fresh hrows hnx) hte (rows:=rows) (cap:=rows.length) k1 k3 (Nat.le_refl _) [] (by simp) e;refine ⟨_,_,_,?_,by rw[Z7];exact s1.trans hst,.blk w.heap.size 0 rows.length,by rw[upd_same],rfl,Nat.le_refl _⟩;have hn:¬(rows.length*te.size>2 ^ 24):=by omega
    simp only[Nat.zero_mul,List.take_zero,List.nil_append]at k4
    have hzA:∀zero:Array Value,(Array.range (rows.length*te.size)).map (fun j=>zero[j % zero.size]!)=zs.toArray ->
     (match Instr.fill (fun i=>some (i*te.size,te.size)) ((Array.range (rows.length*te.size)).map (fun x=>zero[x % zero.size]!)) us.toList with
      | some cells=>do pure (Value.slice (some (<-newRow e cells)) rows.length rows.length)
      | _=>stuck "buildSlice: a part of the wrong size":Sem Value).run P w=.ok (.slice (some ⟨w.heap.size,0,none⟩) rows.length rows.length) (w.alloc (.cells (xs++[]).toArray e (0,0))):=by
     intro zero hz;rw[hz,k4];simp only[newRow,Sem.run_bind,run_newObj,Result.andThen_ok,Sem.run_pure,List.append_nil];rfl
    unfold Instr.buildSlice;simp only[Sem.run_bind,run_underlying hu,Result.andThen_ok,Zr hte];rw[if_neg hn];by_cases h0:rows.length*te.size=0
    .rw[if_pos h0];simp only[Sem.run_bind,Sem.run_pure,Result.andThen_ok];exact hzA #[] (by simp[h0,zs])
    .rw[if_neg h0];simp only[Sem.run_bind,Sem.run_pure,Result.andThen_ok,run_zero hte];exact hzA te.zero.cells (by simp only[zs,Array.toArray_toList])
   .exact hg.elim
  .exact hg.elim
 .exact hg.elim
end Eng
end Go.Proofs.YtgenjpingdkmgaaGreatDoor
