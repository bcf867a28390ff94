/- Contracts of functions that this seat's law calls. No condition. -/
import Derived.Test.YtgenjpingdkmgaaGreatDoorG05
set_option maxRecDepth 100000
set_option linter.unusedSimpArgs false
set_option linter.unusedVariables false
namespace Go.Proofs.YtgenjpingdkmgaaGreatDoor
namespace Eng
section
def viewFE (Γ:Nat->Option Ty) (ty:Ty) (q:Bool) (H:Nat->Option Blk) (nx:Nat) (x:D) (lo hi mx:Option D):Tr (D×Ups) :=
 match x with
 | .e (.c (.o r n))=>match H r with
  | some (.full k _ c)=>match mx with
   | none=>match ty.desc with
    | .slice e=>match Γ e with
     | some te=>match boundE 0 lo,boundE n hi with
      | some l,some h=>.ask (q=true->k=te.size/\0<=l/\l<=h/\h<=c)
       (.ret (match lo with
        | none=>.e (.c (.o r h.toNat))
        | some _=>.u r te.size l.toNat (h.toNat - l.toNat),[]))
      | _,_=>.fail
     | none=>.fail
    | _=>.fail
   | some _=>.fail
  | _=>viewE Γ ty q H nx (.e (.c (.o r n))) lo hi mx
 | x=>viewE Γ ty q H nx x lo hi mx
def capFE (ty:Ty) (H:Nat->Option Blk) (x:D):Tr (D×Ups) :=
 match x with
 | .e (.c (.o r _))=>match ty.desc with
  | .slice _=>match H r with
   | some (.full _ _ c)=>.ret (.x (.int .i64 c),[])
   | _=>.fail
  | _=>.fail
 | x=>capE ty x
def appendFE (Γ:Nat->Option Ty) (ts:Array TypeId) (H:Nat->Option Blk) (nx:Nat) (s:D) (n:Int):Tr (D×Ups) :=
 match s with
 | .e (.c (.o r m))=>match ts[0]?,ts[1]? with
  | some t0,some t1=>match Γ t0,Γ t1 with
   | some ty0,some ty1=>match ty0.desc,ty1.desc with
    | .slice e,.int _=>match Γ e with
     | some te=>match H r with
      | some (.full k rows c)=>.ask (k=te.size/\te.size≠0/\0<n/\0<rows.length/\m<=rows.length/\c<m+n/\m+n<=70368744177664/\(m+n)*te.bytes<=70368744177664)
       (.ret (.e (.c (.o nx (m+n.toNat))),[(nx,.row te.size (rows.take m++List.replicate n.toNat (zeroV te)))]))
      | _=>.fail
     | none=>.fail
    | _,_=>.fail
   | _,_=>.fail
  | _,_=>.fail
 | s=>appendNE Γ ts nx s n
def copySrc (H:Nat->Option Blk):D->Option (Nat×List (List V)×Nat×Prop)
 | .e (.c (.o r n))=>match H r with
  | some (.row k rows)=>some (k,rows,n,True)
  | some (.full k rows _)=>some (k,rows,n,True)
  | _=>none
 | .u r k off n=>match H r with
  | some (.row k' rows)=>some (k,rows.drop off,n,k'=k)
  | some (.full k' rows _)=>some (k,rows.drop off,n,k'=k)
  | _=>none
 | .e (.c (.v (.s k rows)))=>some (k,rows,rows.length,True)
 | _=>none
def copyE (Γ:Nat->Option Ty) (ts:Array TypeId) (H:Nat->Option Blk) (x y:D):Tr (D×Ups) :=
 match ts[0]? with
 | some t0=>match Γ t0 with
  | some ty0=>match ty0.desc with
   | .slice e=>match Γ e with
    | some te=>match copySrc H y with
     | some (k2,rs,n',p)=>match x with
      | .u r k off n=>match H r with
       | some (.row k' rows)=>.ask (p/\k2=te.size/\k=te.size/\k'=te.size/\min n n'<=rs.length/\off+min n n'<=rows.length)
        (.ret (.x (.int .i64 (min n n':Nat)),[(r,.row te.size (putRows rows off (rs.take (min n n'))))]))
       | some (.full k' rows c)=>.ask (p/\k2=te.size/\k=te.size/\k'=te.size/\min n n'<=rs.length/\off<=rows.length/\off+min n n'<=c)
        (.ret (.x (.int .i64 (min n n':Nat)),[(r,.full te.size (putRows rows off (rs.take (min n n'))) c)]))
       | _=>.fail
      | _=>.fail
     | none=>.fail
    | none=>.fail
   | _=>.fail
  | none=>.fail
 | none=>.fail
variable {P:Program} {Γ:Nat->Option Ty} {own0 mt:Nat->Prop} {w0 w:World} {ow:Nat->Prop} {ρ:Nat->Option Pl} {H:Nat->Option Blk} {q:Bool}
 {d':D} {ups:Ups}
theorem viewF_sound (hΓ:TysOk P Γ) (hm:Mem own0 mt w0 ρ H w) {nx:Nat} (hnx:H nx=none) {t:TypeId} {ty:Ty} (ht:TyOk P t ty) {x:D} {u:Value} {lo hi mx:Option D} {ul uh um:Option Value} (hq:q=true)
 (hx:RepD w (Ow own0 ρ H) ρ x u) (hl:OptRep w (Ow own0 ρ H) ρ lo ul) (hh:OptRep w (Ow own0 ρ H) ρ hi uh) (hmx:OptRep w (Ow own0 ρ H) ρ mx um)
 (hg:(viewFE Γ ty q H nx x lo hi mx).gives P (d',ups)):MRun P own0 mt w0 ρ H w (Instr.slice t u ul uh um) ups fun w' ow' ρ' v=>RepD w' ow' ρ' d' v:=by
 unfold viewFE at hg;have hu:=ht.under
 split at hg
 .rename_i r n
  split at hg
  .rename_i k rows c hr
   split at hg
   .cases um with
    | some _=>exact hmx.elim
    | none =>
    split at hg
    .rename_i e hdesc;rw[hdesc]at hu
     split at hg
     .rename_i te hte;have hts:=Zr (P:=P) (hΓ _ _ hte)
      split at hg
      .rename_i l h el eh;obtain ⟨h0,hg⟩:=hg;obtain ⟨rfl,h1,h2,h3⟩:=h0 hq;have hg':(d',ups)=(_,_):=hg;obtain ⟨e1,e2⟩:=Prod.mk.inj hg';subst e2;obtain ⟨⟨hrl,pl,hpl,hrow⟩,hroom⟩:=hm.blks r _ hr;obtain ⟨pl',hpl',hx⟩:=hx;rw[hpl]at hpl';cases hpl';have hc:=hroom _ hpl
       cases pl with
       | nil =>
        obtain ⟨rfl,a,rfl⟩:=hx;subst hrow;have hc:0=c:=hc;subst hc;have hh0:h=0:=by omega
        have hl0:l=0:=by omega
        have hb:=Yn (P:=P) (w:=w) (isSlice:=true) (len:=0) (cap:=0) hl hh el eh (by omega) (by omega) (by omega);refine MRun.pure hm (v:=.slice a 0 0) ?_ ?_
        .simp[Instr.slice,run_underlying hu,hb,hts,hh0,hl0]
        .rw[e1]
         cases lo with
         | none=>exact ⟨.nil,hpl,by omega,a,rfl⟩
         | some _=>exact ⟨.nil,hpl,by omega,a,rfl⟩
       | blk b base cap =>
        obtain ⟨rfl,hnc⟩:=hx;have hc:cap=c:=hc;subst hc;obtain ⟨hcap,vs,T',fr,hb',hf,h4,h5⟩:=hrow;have hb:=Yn (P:=P) (w:=w) (isSlice:=true) (len:=n) (cap:=cap) hl hh el eh (by omega) (by omega) (by omega);refine MRun.pure hm (v:=.slice (if cap=l.toNat then some ⟨b,base,none⟩ else some ⟨b,base+l.toNat*te.size,none⟩) (h.toNat - l.toNat) (cap - l.toNat)) ?_ ?_
        .simp[Instr.slice,run_underlying hu,hb,hts,Zw]
        .rw[e1]
         cases lo with
         | none =>
          simp only[boundE,Option.some.injEq]at el;subst el;refine ⟨.blk b base cap,hpl,?_,by omega⟩
          simp
         | some _ =>
          refine ⟨.blk b base cap,hpl,by omega,_,_,rfl,by omega,fun h0=>?_⟩;rw[if_neg (by omega)]
      .exact hg.elim
     .exact hg.elim
    .exact hg.elim
   .exact hg.elim
  .exact view_sound hΓ hm hnx ht hq hx hl hh hmx hg
 .exact view_sound hΓ hm hnx ht hq hx hl hh hmx hg
theorem capF_sound (hm:Mem own0 mt w0 ρ H w) {t:TypeId} {ty:Ty} (ht:TyOk P t ty) {d:D} {u:Value} (hd:RepD w (Ow own0 ρ H) ρ d u) {ts:Array TypeId} (hts:ts[0]?=some t) (T:TypeId)
 (hg:(capFE ty H d).gives P (d',ups)):ups=[]/\∃r,(Builtin.cap_ ts T #[u]).run P w=.ok r w/\RepD w (Ow own0 ρ H) ρ d' r:=by
 unfold capFE at hg;have hu:=ht.under
 split at hg
 .rename_i r n
  split at hg
  .rename_i hdesc;rw[hdesc]at hu
   split at hg
   .rename_i k rows c hr;obtain ⟨⟨hrl,pl,hpl,hrow⟩,hroom⟩:=hm.blks r _ hr;obtain ⟨pl',hpl',hx⟩:=hd;rw[hpl]at hpl';cases hpl';have hc:=hroom _ hpl
    cases pl with
    | nil =>
     obtain ⟨rfl,a,rfl⟩:=hx;have hc:0=c:=hc;subst hc
     exact ok_x hg rfl (by simp[Builtin.cap_,hts,run_underlying hu,goInt])
    | blk b base cap =>
     obtain ⟨rfl,_⟩:=hx;have hc:cap=c:=hc;subst hc;exact ok_x hg rfl (by simp[Builtin.cap_,hts,run_underlying hu,goInt])
   .exact hg.elim
  .exact hg.elim
 .exact cap_sound ht hd hts T hg
def Reads (P:Program) (w:World) (ow:Nat->Prop) (size:Nat) (rs:List (List V)) (u:Value):Prop :=
 ∃news:List Value,All2 (RepV w ow) rs.flatten news/\∀w':World,(∀a:Addr,w'.cell? a=w.cell? a)->(Builtin.firstCells size rs.length u).run P w'=.ok news.toArray w'
theorem reads_row {r k:Nat} {rows:List (List V)} (hb:RepB w ow ρ r (.row k rows)) {off m cnt:Nat} {u:Value} (hu:RepD w ow ρ (.u r k off m) u) (hc:cnt<=m) (hl:off+cnt<=rows.length) :
 Reads P w ow k ((rows.drop off).take cnt) u:=by
 obtain ⟨hrl,pl,hpl,h⟩:=hb;obtain ⟨pl',hpl',hu⟩:=hu;rw[hpl]at hpl';cases hpl';have hlen:((rows.drop off).take cnt).length=cnt:=by simp;omega
 have hkk:∀r',r'∈(rows.drop off).take cnt->r'.length=k:=fun r' h=>hrl r' (List.mem_of_mem_drop (List.mem_of_mem_take h))
 cases pl with
 | nil =>
  obtain ⟨rfl,a,rfl⟩:=hu;have:cnt=0:=by omega
  subst this;refine ⟨[],by simp;trivial,fun w' _=>?_⟩
  cases a with
  | none=>rfl
  | some ad=>exact run_firstCells_some (P:=P) w' k 0 ad 0 0 [] (by simp) (by simp)
 | blk b base cap =>
  obtain ⟨hle,a,c,rfl,hnc,ha⟩:=hu;obtain ⟨hcap,vs,T',fr,hh,hf,h2,h3⟩:=h;rcases Nat.eq_zero_or_pos cnt with h0|h0
  .subst h0;refine ⟨[],by simp;trivial,fun w' _=>?_⟩
   cases a with
   | none=>rfl
   | some ad=>exact run_firstCells_some (P:=P) w' k 0 ad m c [] (by simp) (by simp)
  .have:=ha (by omega);subst this
   obtain ⟨xs,h4,h5⟩:=flat_of_get (rows:=(rows.drop off).take cnt) (f:=fun n=>w.cell? (Addr.add ⟨b,base+off*k,none⟩ n)) hkk (R:=RepV w ow) fun i r' j v hi hj=>by
    rw[List.getElem?_take]at hi
    split at hi
    .rw[List.getElem?_drop]at hi;obtain ⟨x,hx1,hx2⟩:=h3 _ r' j v hi hj;refine ⟨x,?_,hx2⟩;rw[Zw,Yi hh,<-hx1];congr 1;rw[Nat.add_mul];omega
    .cases hi
   refine ⟨xs,h4,fun w' hw'=>?_⟩;rw[hlen];exact run_firstCells_some (P:=P) w' k cnt _ m c xs (by rw[<-h4.length,Yk hkk,hlen]) fun j v hj=>by rw[hw'];exact h5 j v hj
theorem o_view {r k n:Nat} {u:Value} (h:RepD w ow ρ (.e (.c (.o r n))) u):RepD w ow ρ (.u r k 0 n) u:=by
 obtain ⟨m,hm,h⟩:=h;refine ⟨m,hm,?_⟩
 cases m with
 | nil=>exact h
 | blk b base cap =>
  obtain ⟨rfl,hc⟩:=h;exact ⟨by omega,_,cap,rfl,hc,fun _=>by simp⟩
theorem view_len {r k off n:Nat} {u:Value} (h:RepD w ow ρ (.u r k off n) u) (w':World):(Builtin.lenOf u).run P w'=.ok n w':=by
 obtain ⟨m,hm,h⟩:=h
 cases m with
 | nil=>obtain ⟨rfl,a,rfl⟩:=h;rfl
 | blk b base cap=>obtain ⟨_,a,c,rfl,_⟩:=h;rfl
theorem copySrc_sound (hm:Mem own0 mt w0 ρ H w) {y:D} {u:Value} {k n':Nat} {rs:List (List V)} {p:Prop} (hy:RepD w (Ow own0 ρ H) ρ y u) (h:copySrc H y=some (k,rs,n',p)) (hp:p) {cnt:Nat} (h1:cnt<=n') (h2:cnt<=rs.length) :
 (∀w':World,(Builtin.lenOf u).run P w'=.ok n' w')/\Reads P w (Ow own0 ρ H) k (rs.take cnt) u/\∀r,r∈rs->r.length=k:=by
 have key:∀ {r off n:Nat} {rows:List (List V)},RepB w (Ow own0 ρ H) ρ r (.row k rows)->RepD w (Ow own0 ρ H) ρ (.u r k off n) u->rows.drop off=rs->n=n' ->
  (∀w':World,(Builtin.lenOf u).run P w'=.ok n' w')/\Reads P w (Ow own0 ρ H) k (rs.take cnt) u/\∀r,r∈rs->r.length=k:=by
  intro r off n rows hb hu hrs hn;subst hrs hn;refine ⟨view_len hu,?_,fun r' h=>hb.1 r' (List.mem_of_mem_drop h)⟩;rcases Nat.eq_zero_or_pos cnt with h0|h0
  .subst h0;refine ⟨[],by simp;trivial,fun w' _=>?_⟩;obtain ⟨m,_,hu⟩:=hu
   have:∃a c,u=.slice a n c:=by
    cases m with
    | nil=>obtain ⟨rfl,a,rfl⟩:=hu;exact ⟨a,0,rfl⟩
    | blk=>obtain ⟨_,a,c,rfl,_⟩:=hu;exact ⟨a,c,rfl⟩
   obtain ⟨a,c,rfl⟩:=this
   cases a with
   | none=>rfl
   | some ad=>exact run_firstCells_some (P:=P) w' k 0 ad n c [] (by simp) (by simp)
  .exact reads_row hb hu h1 (by simp at h2;omega)
 unfold copySrc at h
 split at h
 .rename_i r n
  split at h
  .rename_i k' rows hr;cases h;exact key (hm.blks r _ hr) (o_view hy) (by simp) rfl
  .rename_i k' rows c hr;cases h;exact key (hm.blks r _ hr).row_of_full (o_view hy) (by simp) rfl
  .cases h
 .rename_i r k0 off n
  split at h
  .rename_i k' rows hr;cases h;cases hp;exact key (hm.blks r _ hr) hy rfl rfl
  .rename_i k' rows c hr;cases h;cases hp;exact key (hm.blks r _ hr).row_of_full hy rfl rfl
  .cases h
 .cases h;obtain ⟨a,c,rfl,_,hz,hkk,hc⟩:=rep_s (show RepV w _ _ u from hy);refine ⟨fun _=>rfl,?_,fun r hr=>by obtain ⟨i,hi⟩:=List.mem_iff_getElem?.1 hr;exact hkk i r hi⟩
  cases a with
  | none=>have:=hz rfl;subst this;exact ⟨[],by simp;trivial,fun w' _=>by simp;rfl⟩
  | some ad =>
   have ht:∀(i:Nat) (r:List V),(rs.take cnt)[i]?=some r->rs[i]?=some r:=fun i r h=>by
    rw[List.getElem?_take]at h;split at h
    .exact h
    .cases h
   have hkt:∀r,r∈rs.take cnt->r.length=k:=fun r h=>by
    obtain ⟨i,hi⟩:=List.mem_iff_getElem?.1 (List.mem_of_mem_take h);exact hkk i r hi
   obtain ⟨xs,h3,h4⟩:=flat_of_get (f:=fun n=>w.cell? (ad.add n)) (R:=RepV w (Ow own0 ρ H)) hkt fun i r j v hi hj=>by
    obtain ⟨x,h5,h6,_⟩:=hc ad rfl i r j v (ht i r hi) hj;exact ⟨x,h5,h6⟩
   have hl:(rs.take cnt).length=cnt:=by simp;omega
   refine ⟨xs,h3,fun w' hw'=>?_⟩;rw[hl];exact run_firstCells_some (P:=P) w' k cnt ad _ c xs (by rw[<-h3.length,Yk hkt,hl]) fun j v hj=>by rw[hw'];exact h4 j v hj
 .cases h
theorem full_write (hm:Mem own0 mt w0 ρ H w) {r k c:Nat} {rows rs:List (List V)} {b base cap off:Nat} (hr:H r=some (.full k rows c)) (hp:ρ r=some (.blk b base cap)) {news:List Value}
 (hxn:All2 (RepV w (Ow own0 ρ H)) rs.flatten news) (hkr:∀r,r∈rs->r.length=k) (ho:off<=rows.length) (hroom:off+rs.length<=cap) :
 ∃w',(storeCells ⟨b,base+off*k,none⟩ news).run P w=.ok () w'/\Step own0 mt w0 ρ H w ρ (upd H r (some (.full k (splice rows off rs) c))) w':=by
 have hb0:=hm.blks r _ hr;have hroomc:=hb0.2
 have s1:Step own0 mt w0 ρ H w ρ (upd H r (some (.row k rows))) w:=Step.relax hm (fun _=>by rw[hr];rfl) (fun _=>by rw[hr];rfl)
  (show RepB w (Ow own0 ρ (upd H r (some (.row k rows)))) ρ r (.row k rows) from hb0.row_of_full.mono (Keep.refl _ _) (fun b _ h=>Z6 (fun _=>by rw[hr];rfl) h) (.refl _) fun _ _ _ _ _=>rfl)
 obtain ⟨w',hst,s2⟩:=row_write (P:=P) s1.mem (upd_same _ _ _) hp (off:=off) (hxn.mono fun _ _ h=>h.mono (Keep.refl _ _) s1.ow) hkr ho hroom;have hl:live (upd (upd H r (some (.row k rows))) r (some (.row k (splice rows off rs))) r)=true:=by rw[upd_same];rfl
 have s3:Step own0 mt w0 ρ (upd (upd H r (some (.row k rows))) r (some (.row k (splice rows off rs)))) w' ρ (upd (upd (upd H r (some (.row k rows))) r (some (.row k (splice rows off rs)))) r (some (.full k (splice rows off rs) c))) w':=by
  refine Step.relax s2.mem (fun _=>hl) (fun _=>Yu hl) ⟨?_,hroomc⟩;have hb2:=s2.mem.blks r _ (upd_same _ _ _);exact (show RepB w' (Ow own0 ρ _) ρ r (.row k (splice rows off rs)) from hb2.mono (Keep.refl _ _) (fun b _ h=>Z6 (fun _=>hl) h) (.refl _) fun _ _ _ _ _=>rfl)
 refine ⟨w',hst,?_⟩
 have e:upd (upd (upd H r (some (.row k rows))) r (some (.row k (splice rows off rs)))) r (some (.full k (splice rows off rs) c))=upd H r (some (.full k (splice rows off rs) c)):=by
  funext j;unfold upd;split<;>rfl
 rw[<-e];exact (s1.trans s2).trans s3
theorem copy_sound (hΓ:TysOk P Γ) (hm:Mem own0 mt w0 ρ H w) {ts:Array TypeId} {x y:D} {ux uy:Value} (hx:RepD w (Ow own0 ρ H) ρ x ux) (hy:RepD w (Ow own0 ρ H) ρ y uy) (T:TypeId)
 (hg:(copyE Γ ts H x y).gives P (d',ups)):MRun P own0 mt w0 ρ H w (Builtin.copy_ ts T #[ux,uy]) ups fun w' ow' ρ' v=>RepD w' ow' ρ' d' v:=by
 unfold copyE at hg
 split at hg
 .rename_i t0 h0
  split at hg
  .rename_i ty0 hy0;have ht0:=(hΓ _ _ hy0).under
   split at hg
   .rename_i e hd0;rw[hd0]at ht0
    split at hg
    .rename_i te hte;have hte:=hΓ _ _ hte;have hts:=Zr (P:=P) hte
     split at hg
     .rename_i k2 rs n' p hsrc
      split at hg
      .rename_i r k off n;have hux:=hx;obtain ⟨pl,hpl,hu⟩:=hx
       have rn:∀ {a:Option Addr} {c:Nat} {news:List Value},ux=.slice a n c->(∀w':World,(Builtin.lenOf uy).run P w'=.ok n' w')->(Builtin.firstCells te.size (min n n') uy).run P w=.ok news.toArray w ->
        (Builtin.copy_ ts T #[ux,uy]).run P w=(((match a with|some ad=>storeCells ad news|none=>pure ()):Sem Unit).run P w).andThen fun _ w'=>.ok (.int .i64 (min n n':Nat)) w':=by
        intro a c news he hl hf;subst he;have hmn:Nat.min n' n=min n n':=Nat.min_comm n' n;simp only[Builtin.copy_];simp[h0,run_underlying ht0,hl w,hts,hmn,hf,goInt];cases a<;>simp
       split at hg
       .rename_i k' rows hr;obtain ⟨⟨hp,rfl,rfl,rfl,h2,h3⟩,hg⟩:=hg;have hg':(d',ups)=(_,_):=hg;cases hg';obtain ⟨hlen,⟨news,hn,hf⟩,hkr⟩:=copySrc_sound (P:=P) hm hy hsrc hp (Nat.min_le_right n n') h2;have hl2:(rs.take (min n n')).length=min n n':=by simp;omega
        rw[hl2]at hf
        cases pl with
        | nil =>
         obtain ⟨rfl,a,rfl⟩:=hu;have hrun:=rn rfl hlen (hf w fun _=>rfl);simp only[Nat.zero_min,List.take_zero]at hn hrun ⊢
         have hnw:news=[]:=by cases news with
          | nil=>rfl
          | cons _ _=>exact hn.elim
         subst hnw;refine ⟨_,w,ρ,by rw[hrun];cases a<;>rfl,?_,RepV.x _ rfl⟩;have hrow:=(hm.blks r _ hr)
         obtain ⟨_,m,hm',hrow⟩:=hrow;rw[hpl]at hm';cases hm';have hrow:rows=[]:=hrow;subst hrow
         have:upd H r (some (.row te.size (putRows [] off [])))=H:=by
          funext j;unfold upd;split
          .rename_i h;subst h;simp[putRows,splice,hr]
          .rfl
         rw[show updL H [(r,Blk.row te.size (putRows [] off []))]=H from this]
         exact Step.refl hm
        | blk b base cap =>
         obtain ⟨hle,a,c,rfl,hnc,ha⟩:=hu;have hrun:=rn rfl hlen (hf w fun _=>rfl)
         have hrc:rows.length<=cap:=by
          obtain ⟨_,m,hm',hrow⟩:=hm.blks r _ hr;rw[hpl]at hm';cases hm';exact hrow.1
         obtain ⟨w',hst,hstep⟩:=row_write (P:=P) hm hr hpl (off:=off) hn (fun r h=>hkr r (List.mem_of_mem_take h)) (by omega) (by rw[hl2];omega);rcases Nat.eq_zero_or_pos n with hz|hz
         .subst hz;simp only[Nat.zero_min,List.take_zero]at hn hrun hst hstep ⊢
          have hnw:news=[]:=by cases news with
           | nil=>rfl
           | cons _ _=>exact hn.elim
          subst hnw
          have hw:w'=w:=by
           have:(storeCells ⟨b,base+off*te.size,none⟩ ([]:List Value)).run P w=.ok () w:=rfl;rw[this]at hst;cases hst;rfl
          subst hw;exact ⟨_,w',ρ,by rw[hrun];cases a<;>rfl,hstep,RepV.x _ rfl⟩
         .have:=ha hz;subst this;exact ⟨_,w',ρ,by rw[hrun];simp[hst],hstep,RepV.x _ rfl⟩
       .rename_i k' rows c0 hr;obtain ⟨⟨hp,rfl,rfl,rfl,h2,h3,h4⟩,hg⟩:=hg;have hg':(d',ups)=(_,_):=hg;cases hg';obtain ⟨hlen,⟨news,hn,hf⟩,hkr⟩:=copySrc_sound (P:=P) hm hy hsrc hp (Nat.min_le_right n n') h2;have hl2:(rs.take (min n n')).length=min n n':=by simp;omega
        rw[hl2]at hf;have hroom:=(hm.blks r _ hr).2 _ hpl
        cases pl with
        | nil =>
         obtain ⟨rfl,a,rfl⟩:=hu;have hrun:=rn rfl hlen (hf w fun _=>rfl);simp only[Nat.zero_min,List.take_zero]at hn hrun ⊢
         have hnw:news=[]:=by cases news with
          | nil=>rfl
          | cons _ _=>exact hn.elim
         subst hnw;refine ⟨_,w,ρ,by rw[hrun];cases a<;>rfl,?_,RepV.x _ rfl⟩;have hrow:=(hm.blks r _ hr).1;obtain ⟨_,m,hm',hrow⟩:=hrow;rw[hpl]at hm';cases hm';have hrow:rows=[]:=hrow;subst hrow
         have:upd H r (some (.full te.size (putRows [] off []) c0))=H:=by
          funext j;unfold upd;split
          .rename_i h;subst h;simp[putRows,splice,hr]
          .rfl
         rw[show updL H [(r,Blk.full te.size (putRows [] off []) c0)]=H from this]
         exact Step.refl hm
        | blk b base cap =>
         obtain ⟨hle,a,c,rfl,hnc,ha⟩:=hu;have hroom:cap=c0:=hroom;subst hroom;have hrun:=rn rfl hlen (hf w fun _=>rfl);obtain ⟨w',hst,hstep⟩:=full_write (P:=P) hm hr hpl (off:=off) hn (fun r h=>hkr r (List.mem_of_mem_take h)) (by omega) (by rw[hl2];omega);rcases Nat.eq_zero_or_pos n with hz|hz
         .subst hz;simp only[Nat.zero_min,List.take_zero]at hn hrun hst hstep ⊢
          have hnw:news=[]:=by cases news with
           | nil=>rfl
           | cons _ _=>exact hn.elim
          subst hnw
          have hw:w'=w:=by
           have:(storeCells ⟨b,base+off*te.size,none⟩ ([]:List Value)).run P w=.ok () w:=rfl;rw[this]at hst;cases hst;rfl
          subst hw;exact ⟨_,w',ρ,by rw[hrun];cases a<;>rfl,hstep,RepV.x _ rfl⟩
         .have:=ha hz;subst this;exact ⟨_,w',ρ,by rw[hrun];simp[hst],hstep,RepV.x _ rfl⟩
       .exact hg.elim
      .exact hg.elim
     .exact hg.elim
    .exact hg.elim
   .exact hg.elim
  .exact hg.elim
 .exact hg.elim
theorem run_append_onto (ts:Array TypeId) (T t0 t1 e:TypeId) (k:IntKind) (te:Ty) (h0:ts[0]?=some t0) (h1:ts[1]?=some t1) (ht0:P.underlying t0=some (.slice e)) (ht1:P.underlying t1=some (.int k))
 (hte:TyOk P e te) (w:World) (k':IntKind) (a:Option Addr) (m c n:Nat) (olds:List Value) (hold:(Builtin.firstCells te.size m (.slice a m c)).run P w.drew=.ok olds.toArray w.drew) (hsz:te.size≠0) (hn:0<n) (hc:c<m+n) (h63:m+n<=70368744177664) (h48:(m+n)*te.bytes<=70368744177664) :
 (Builtin.append_ ts T #[.slice a m c,.int k' n]).run P w =
  .ok (.slice (some ⟨w.heap.size,0,none⟩) (m+n) (grownCap w (m+n) c e)) (w.drew.alloc (.cells ((olds++(Builtin.zeroCells te.zero.cells n).toList)++(Builtin.zeroCells te.zero.cells (grownCap w (m+n) c e - (m+n))).toList).toArray e)):=by
 obtain ⟨i,hi,hiz,his,hib⟩:=hte.info;have hn':¬n=0:=by omega
 have hroom:¬(m+n<=c):=by omega
 have hw:IntKind.i64.wrap (n:Int)=(n:Int):=by
  simp only[IntKind.wrap,IntKind.bits,IntKind.signed];simp;omega
 have h63':¬(9223372036854775807<((m:Int)+(n:Int))):=by omega
 have h48':¬(281474976710656<Builtin.nextslicecap (m+n) c*i.bytes):=by
  have:=nextslicecap_le (need:=m+n) (old:=c) (by omega);have h2:Builtin.nextslicecap (m+n) c*i.bytes<=(2*(m+n))*i.bytes:=Nat.mul_le_mul_right _ this;rw[hib]at h2 ⊢;rw[Nat.mul_assoc]at h2;omega
 have h48i:¬(281474976710656<(n:Int)*(i.bytes:Int)):=by
  rw[hib];have h3:n*te.bytes<=(m+n)*te.bytes:=Nat.mul_le_mul_right _ (by omega);have:(n:Int)*(te.bytes:Int)=((n*te.bytes:Nat):Int):=by simp
  rw[this];omega
 have hns:¬(n*te.size=0):=Nat.mul_ne_zero hn' hsz;have hneg:¬((n:Int)<0):=by omega
 simp[Builtin.append_,h0,h1,run_underlying ht0,run_underlying ht1,Zr hte,hw,hn',hroom,typeInfo,hi,h63',h48',h48i,Question.forced,run_zero hte,newRow,grownCap,asInt,asIntOf,hold,hns,hneg];congr 2;apply Array.ext';simp
theorem zeros_rep {te:Ty} {e:TypeId} (hte:TyOk P e te) (m:Nat):All2 (RepV w ow) (List.replicate m (zeroV te)).flatten (Builtin.zeroCells te.zero.cells m).toList:=by
 rw[Yv hte]
 induction m with
 | zero=>trivial
 | succ m ih =>
  simp only[List.replicate_succ,List.flatten_cons];refine All2.append ?_ ih;have hz:=all2_zero (w:=w) (ow:=ow) (ρ:=fun _=>none) hte;unfold zeroV;generalize te.zero.cells.toList=l at hz
  induction l with
  | nil=>trivial
  | cons x l ih=>exact ⟨hz.1,ih hz.2⟩
theorem appendF_sound (hΓ:TysOk P Γ) (hm:Mem own0 mt w0 ρ H w) {nx:Nat} (hnx:H nx=none) {ts:Array TypeId} {s:D} {us ux:Value} {k':IntKind} {n:Int} (hs:RepD w (Ow own0 ρ H) ρ s us) (hx:RepD w (Ow own0 ρ H) ρ (.x (.int k' n)) ux) (T:TypeId)
 (hg:(appendFE Γ ts H nx s n).gives P (d',ups)):MRun P own0 mt w0 ρ H w (Builtin.append_ ts T #[us,ux]) ups fun w' ow' ρ' v=>RepD w' ow' ρ' d' v:=by
 unfold appendFE at hg
 split at hg
 .rename_i r m
  split at hg
  .rename_i t0 t1 h0 h1
   split at hg
   .rename_i ty0 ty1 hy0 hy1;have ht0:=(hΓ _ _ hy0).under;have ht1:=(hΓ _ _ hy1).under
    split at hg
    .rename_i e k hd0 hd1;rw[hd0]at ht0;rw[hd1]at ht1
     split at hg
     .rename_i te hte;have hte:=hΓ _ _ hte
      split at hg
      .rename_i kk rows c hr;obtain ⟨⟨rfl,hsz,hn,hpos,hmr,hc,h63,h48⟩,hg⟩:=hg;have hg':(d',ups)=(_,_):=hg;cases hg';have hux:=(rep_x hx).1;subst hux;obtain ⟨j,rfl⟩:∃j:Nat,n=j:=⟨n.toNat,by omega⟩
       have h48':(m+j)*te.bytes<=70368744177664:=by
        have:((m:Int)+(j:Int))*(te.bytes:Int)=(((m+j)*te.bytes:Nat):Int):=by simp
        rw[this]at h48;omega
       have hb:=(hm.blks r _ hr).row_of_full;have hroom:=(hm.blks r _ hr).2;obtain ⟨news,hn2,hf⟩:=reads_row (P:=P) hb (o_view (k:=te.size) hs) (Nat.le_refl m) (by omega);have hl:((rows.drop 0).take m).length=m:=by simp;omega
       rw[hl]at hf;simp only[List.drop_zero]at hn2;obtain ⟨hrl,pl,hpl,hrow⟩:=hb;obtain ⟨pl',hpl',hs⟩:=hs;rw[hpl]at hpl';cases hpl'
       cases pl with
       | nil=>have hrow:rows=[]:=hrow;subst hrow;simp at hpos
       | blk b base cap =>
        obtain ⟨rfl,hmc⟩:=hs;have hroom:cap=c:=hroom _ hpl;subst hroom;have hrun:=run_append_onto (P:=P) ts T t0 t1 e k te h0 h1 ht0 ht1 hte w k' (some ⟨b,base,none⟩) m cap j news (hf w.drew fun _=>rfl) hsz (by omega) (by omega) (by omega) h48';have hge:=grownCap_ge w (m+j) cap e;simp only[Int.toNat_natCast]
        have hkk:∀x,x∈rows.take m++List.replicate j (zeroV te)->x.length=te.size:=fun x h=>by
         rcases List.mem_append.1 h with h|h
         .exact hrl x (List.mem_of_mem_take h)
         .rw[(List.mem_replicate.1 h).2];simp[zeroV,hte.zsize]
        have hfl:All2 (RepV w.drew (Ow own0 ρ H)) (rows.take m++List.replicate j (zeroV te)).flatten (news++(Builtin.zeroCells te.zero.cells j).toList):=by
         rw[List.flatten_append];exact (hn2.mono fun _ _ h=>h.mono (Keep.drew _ _) fun _ _ h=>h).append (zeros_rep hte j)
        have hst:=newRow_step (Step.drew hm).mem hnx hte (rows:=rows.take m++List.replicate j (zeroV te)) (cap:=grownCap w (m+j) cap e) hkk hfl (by simp;omega)
         (Builtin.zeroCells te.zero.cells (grownCap w (m+j) cap e - (m+j))).toList (by rw[Array.length_toList,zeroCells_len hte];congr 2;simp;omega) e
        exact ⟨_,_,_,hrun,(Step.drew hm).trans hst,.blk w.drew.heap.size 0 (grownCap w (m+j) cap e),by rw[upd_same],rfl,hge⟩
      .exact hg.elim
     .exact hg.elim
    .exact hg.elim
   .exact hg.elim
  .exact hg.elim
 .exact appendN_sound hΓ hm hnx hs hx T hg
theorem ACall.room {f:FuncId} {k:Nat} {rows:List (List V)} {bi:List Blk} {args:List D} {val:D} {bo:List Blk} (h:∀c,rows.length<=c->ACall P f (.full k rows c::bi) args val bo):ACall P f (.row k rows::bi) args val bo:=by
 refine ⟨(h rows.length (Nat.le_refl _)).1,fun own0 w ρ vs hm ha=>?_⟩;have hb:=hm.blks 0 _ rfl;obtain ⟨hrl,m,hpl,hrow⟩:=id hb
 have hle:rows.length<=roomOf m:=by
  cases m with
  | nil=>have hrow:rows=[]:=hrow;subst hrow;simp
  | blk b base cap=>exact hrow.1
 have hl0:live ((fun i=>(Blk.row k rows::bi)[i]?) 0)=true:=rfl
 have e:upd (fun i=>(Blk.row k rows::bi)[i]?) 0 (some (.full k rows (roomOf m)))=fun i=>(Blk.full k rows (roomOf m)::bi)[i]?:=by
  funext i
  cases i<;>simp[upd]
 have how:∀b,Ow own0 ρ (upd (fun i=>(Blk.row k rows::bi)[i]?) 0 (some (.full k rows (roomOf m)))) b->Ow own0 ρ (fun i=>(Blk.row k rows::bi)[i]?) b:=fun b h=>Z6 (fun _=>hl0) h
 have hm2:=hm.relax (i:=0) (blk:=.full k rows (roomOf m)) (fun _=>hl0) (fun _=>rfl)
  ⟨(show RepB w _ ρ 0 (.row k rows) from hb.mono (Keep.refl _ _) (fun b _ h=>how b h) (.refl _) fun _ _ _ _ _=>rfl),fun m' hm'=>by rw[hpl]at hm';cases hm';rfl⟩
 rw[e]at hm2 how;exact (h (roomOf m) hle).2 own0 w ρ vs hm2 (ha.mono fun _ _ h=>h.mono (Keep.refl _ _) (fun b _ h=>how b h) (.refl _))
end
section
def withTy {α:Type} (Γ:Nat->Option Ty) (t:TypeId) (k:Ty->Tr α):Tr α :=
 match Γ t with
 | some ty=>k ty
 | none=>.fail
def needL {α:Type} (q:Bool):List D->(List D->Tr α)->Tr α
 | [],k=>k []
 | d::r,k=>need q d fun d=>needL q r fun ds=>k (d::ds)
def needO {α:Type} (q:Bool) (d:Option D) (k:Option D->Tr α):Tr α :=
 match d with
 | none=>k none
 | some d=>need q d fun d=>k (some d)
def appE (Γ:Nat->Option Ty) (ts:Array TypeId) (H:Nat->Option Blk) (nx:Nat) (s x:D):Tr (D×Ups) :=
 match x with
 | .u r' k off m=>match s with
  | .e (.c (.o r n))=>appendUE Γ ts H r n r' k off m
  | _=>.fail
 | .e (.c (.v (.x (.int _ n))))=>appendFE Γ ts H nx s n
 | x=>appendE Γ ts H nx s x
def cutE (vw:Bool) (Γ:Nat->Option Ty) (ty:Ty) (q:Bool) (H:Nat->Option Blk) (nx:Nat) (x:D) (lo hi mx:Option D):Tr (D×Ups) :=
 if vw then viewFE Γ ty q H nx x lo hi mx else sliceE Γ ty q H nx x lo hi mx
def builtinE (Γ:Nat->Option Ty) (b:Builtin) (ts:Array TypeId) (H:Nat->Option Blk) (nx:Nat) (ds:List D):Tr (D×Ups) :=
 match b with
 | .len=>match ds,ts[0]? with
  | [d],some t=>withTy Γ t fun ty=>lenE ty d
  | _,_=>.fail
 | .cap=>match ds,ts[0]? with
  | [d],some t=>withTy Γ t fun ty=>capFE ty H d
  | _,_=>.fail
 | .append=>match ds with
  | [s,x]=>appE Γ ts H nx s x
  | _=>.fail
 | .clear=>match ds with
  | [.u r k off m]=>clearE Γ ts H r k off m
  | _=>.fail
 | .copy=>match ds with
  | [x,y]=>copyE Γ ts H x y
  | _=>.fail
 | .min=>minE false ds
 | .max=>minE true ds
 | _=>.fail
def callvE (own:Nat->Bool) (H:Nat->Option Blk) (nx:Nat) (q:Bool) (d:D) (ds:List D):Tr (D×Ups) :=
 match d with
 | .e (.c (.v (.f f caps)))=>callE (own f) H nx q f (ds++caps.map .q)
 | .e (.c (.v (.x (.func (.func f) ⟨[]⟩ ⟨[]⟩))))=>callE (own f) H nx q f ds
 | _=>.fail
def opE (Γ:Nat->Option Ty) (own:Nat->Bool) (o:Op) (En:Nat->D) (H:Nat->Option Blk) (nx:Nat) (q:Bool):Tr (D×Ups) :=
 match o with
 | .move x=>need q (evO En x) fun d=>.ret (d,[])
 | .assign x=>need q (evO En x) fun d=>.ret (d,[])
 | .pick c a b=>need q (evO En c) fun d=>pickE q d a b (evO En a) (evO En b)
 | .alloc t=>withTy Γ t fun ty=>.ret (.p nx 0,[(nx,.loc (zeroC ty))])
 | .box _ v=>need q (evO En v) fun
  | .e e=>.ret (.p nx 0,[(nx,.loc e.cells)])
  | _=>.fail
 | .build t ps=>withTy Γ t fun ty=>needL q (ps.toList.map fun p=>evO En p.2) fun ds=>buildE Γ ty ((ps.toList.map (·.1)).zip ds)
 | .buildSlice t n ps=>withTy Γ t fun ty=>needL q (ps.toList.map fun p=>evO En p.2) fun ds=>buildSliceE Γ ty H n nx ((ps.toList.map (·.1)).zip ds)
 | .load t a=>withTy Γ t fun ty=>need q (evO En a) fun d=>loadE ty H q d
 | .store t a x=>withTy Γ t fun ty=>need q (evO En a) fun d=>need q (evO En x) fun e=>storeE ty H d e
 | .nilCheck x=>need q (evO En x) fun
  | .p b off=>.ret (.p b off,[])
  | .q cs=>.ret (.q cs,[])
  | .w r k i off=>.ret (.w r k i off,[])
  | _=>.fail
 | .binOp op t x y _=>need q (evO En x) fun d=>need q (evO En y) fun e=>binNE Γ q op t y d e
 | .unOp op _ x=>need q (evO En x) fun d=>unQ q op d
 | .convert s t x=>need q (evO En x) fun d=>convHE Γ H nx s t d
 | .slice t x lo hi mx=>withTy Γ t fun ty=>need q (evO En x) fun d=>needO q (lo.map (evO En)) fun l=>needO q (hi.map (evO En)) fun h=>needO q (mx.map (evO En)) fun m=>cutE (own 0) Γ ty q H nx d l h m
 | .fieldAddr t x f=>withTy Γ t fun ty=>need q (evO En x) fun d=>fieldAddrE Γ ty f d
 | .field t x f=>withTy Γ t fun ty=>need q (evO En x) fun d=>fieldE Γ ty f q d
 | .indexAddr t x i=>withTy Γ t fun ty=>need q (evO En x) fun d=>need q (evO En i) fun e=>indexAddrE Γ ty q d e
 | .index t x i=>withTy Γ t fun ty=>need q (evO En x) fun d=>need q (evO En i) fun e=>indexE Γ ty q d e
 | .extract x i=>need q (evO En x) fun d=>extractE i d
 | .call c=>needL q (c.args.toList.map (evO En)) fun ds=>match c.callee with
  | .value (.func f)=>callE (own f) H nx q f ds
  | .value (.tmp t)=>need q (En t) fun d=>callvE own H nx q d ds
  | .builtin b=>builtinE Γ b c.argTypes H nx ds
  | _=>.fail
 | .makeSlice t l c=>withTy Γ t fun ty=>need q (evO En l) fun d=>need q (evO En c) fun e=>makeSliceE Γ ty nx d e
 | .makeFunc fn first caps=>needL q (caps.toList.map (evO En)) fun ds=>makeFuncE H fn first ds
 | _=>.fail
variable {P:Program} {Γ:Nat->Option Ty} {own:Nat->Bool} {own0 mt:Nat->Prop} {w0 w w':World} {ow ow':Nat->Prop} {ρ ρ':Nat->Option Pl} {En:Nat->D} {H:Nat->Option Blk} {q:Bool}
 {d':D} {ups:Ups}
theorem Yc {α:Type} {t:TypeId} {k:Ty->Tr α} {x:α} (h:(withTy Γ t k).gives P x):∃ty,Γ t=some ty/\(k ty).gives P x:=by
 unfold withTy at h
 split at h
 .exact ⟨_,by assumption,h⟩
 .exact h.elim
theorem needL_gives {α:Type} (hq:q=true):∀ {ds:List D} {us:List Value} {k:List D->Tr α} {x:α},(needL q ds k).gives P x->All2 (RepD w ow ρ) ds us->∃ds',All2 (RepD w ow ρ) ds' us/\(k ds').gives P x
 | [],[],k,x,h,_=>⟨[],trivial,h⟩
 | d::ds,u::us,k,x,h,⟨h0,h1⟩=>by
  simp only[needL]at h;obtain ⟨d',hd,h⟩:=Zm (w:=w) (ow:=ow) (ρ:=ρ) hq h;obtain ⟨ds',ha,h⟩:=needL_gives hq h h1
  exact ⟨d'::ds',⟨hd _ h0,ha⟩,h⟩
 | [],_::_,_,_,_,h=>h.elim
 | _::_,[],_,_,_,h=>h.elim
theorem needO_gives {α:Type} (hq:q=true) {d:Option D} {u:Option Value} {k:Option D->Tr α} {x:α} (h:(needO q d k).gives P x) (hr:OptRep w ow ρ d u):∃d',OptRep w ow ρ d' u/\(k d').gives P x:=by
 cases d with
 | none=>exact ⟨none,hr,h⟩
 | some d=>cases u with
  | none=>exact hr.elim
  | some u =>
   obtain ⟨d',hd,h⟩:=Zm (w:=w) (ow:=ow) (ρ:=ρ) hq h;exact ⟨some d',hd _ hr,h⟩
theorem all2_map {α β γ δ:Type} {R:γ->δ->Prop} {f:α->γ} {g:β->δ}:∀ {as:List α} {bs:List β},All2 (fun a b=>R (f a) (g b)) as bs->All2 R (as.map f) (bs.map g)
 | [],[],_=>trivial
 | _::_,_::_,⟨h,hs⟩=>⟨h,all2_map hs⟩
 | [],_::_,h=>h.elim
 | _::_,[],h=>h.elim
theorem all2_same {α:Type} {R:α->α->Prop}:∀ {as:List α},(∀a,R a a)->All2 R as as
 | [],_=>trivial
 | a::as,h=>⟨h a,all2_same h⟩
theorem all2_parts {R:D->Value->Prop}:∀ {ps:List (Nat×Operand)} {ds:List D} {f:Operand->Value},All2 R ds (ps.map fun p=>f p.2)->All2 (fun (p:Nat×D) (u:Nat×Value)=>p.1=u.1/\R p.2 u.2) ((ps.map (·.1)).zip ds) (ps.map fun p=>(p.1,f p.2))
 | [],[],_,_=>trivial
 | p::ps,d::ds,f,⟨h0,h1⟩=>⟨⟨rfl,h0⟩,all2_parts h1⟩
 | [],_::_,_,h=>h.elim
 | _::_,[],_,h=>h.elim
structure OpRun (P:Program) (own0 mt:Nat->Prop) (w0:World) (ρ:Nat->Option Pl) (H:Nat->Option Blk) (w:World) (d:D) (ups:Ups) (v:Value) (w':World) (ρ':Nat->Option Pl):Prop where
 step:Step own0 mt w0 ρ H w ρ' (updL H ups) w'
 rep:RepD w' (Ow own0 ρ' (updL H ups)) ρ' d v
theorem passDs_fresh {o:Bool} {hs:List Nat} {i:Nat}:∀ {ds args:List D} {H:Nat->Option Blk} {ups:Ups} {p:Prop},passDs o hs H ds=some (args,ups,p)->H i=none->updL H ups i=none
 | [],_,_,_,_,h,hi=>by cases h;exact hi
 | d::ds,args,H,ups,p,h,hi=>by
  simp only[passDs]at h
  split at h
  .rename_i d' u1 p1 hd
   split at h
   .rename_i ds' u2 p2 hds;cases h;rw[Z7];refine passDs_fresh hds ?_;unfold passD at hd
    split at hd
    .cases hd;exact hi
    .split at hd
     .cases hd;exact hi
     .rename_i e _;unfold frzD at hd
      split at hd
      .split at hd
       .rename_i hc;cases hd;exact frzCs_fresh hc hi
       .cases hd
      .split at hd
       .rename_i hc;cases hd;exact frzCs_fresh hc hi
       .cases hd
      .cases hd
    .cases hd;exact hi
    .split at hd
     .cases hd;exact hi
     .cases hd
    .cases hd
   .cases h
  .cases h
theorem run_callFunc {f:FuncId} (h:Plain P f) (args:Array Value) (w:World):(callFunc f args).run P w=.ok (.enter f args) w:=by
 obtain ⟨fn,hf,hn,hb⟩:=h;have hn':¬fn.name = "runtime.NumGoroutine":=by simpa using hn
 have hb':¬fn.body=none:=by intro h;rw[h]at hb;cases hb
 simp[callFunc,hf,hn',hb']
theorem sliceAt_eq {t:TypeId} {ty:Ty} (ht:TyOk P t ty) (hd:∀n e,ty.desc≠.array n e) (x:Value) (l h m:Option Value) (w:World):(Instr.sliceAt t x l h m).run P w=(Instr.slice t x l h m).run P w:=by
 unfold Instr.sliceAt;rw[Sem.run_bind,run_underlying ht.under];simp only[Result.andThen_ok]
theorem op_sound (hΓ:TysOk P Γ) {o:Oper} {a:Act} (hm:Mem own0 mt w0 ρ H w) (ht:∀t,RepD w (Ow own0 ρ H) ρ (En t) (a.tmps.getD t undef)) {nx:Nat} (hnx:∀j,nx<=j->j<nx+64->H j=none) (hq:q=true)
 (hg:(opE Γ own o.op En H nx q).gives P (d',ups)) (K:Act->World->Prop) (Q:Exit->Act->World->Prop)
 (hK:∀v w' ρ',OpRun P own0 mt w0 ρ H w d' ups v w' ρ'->K (a.put o.dst v) w'):o.wp P a w K Q:=by
 have hnx0:H nx=none:=hnx nx (Nat.le_refl _) (by omega);have ev:∀x,RepD w (Ow own0 ρ H) ρ (evO En x) (a.eval x):=rep_evO hm.tabs ht;have evs:∀xs:List Operand,All2 (RepD w (Ow own0 ρ H) ρ) (xs.map (evO En)) (xs.map a.eval):=fun xs=>all2_map (all2_same ev);have evp:∀ps:List (Nat×Operand),All2 (RepD w (Ow own0 ρ H) ρ) (ps.map fun p=>evO En p.2) (ps.map fun p=>a.eval p.2):=fun ps=>all2_map (all2_same fun p=>ev p.2)
 have evo:∀x:Option Operand,OptRep w (Ow own0 ρ H) ρ (x.map (evO En)) (x.map a.eval):=fun x=>by cases x with
  | none=>trivial
  | some x=>exact ev x
 have val:∀ {s:Sem Value} {v:Value},execOp a.eval o=(do pure (.value (<-s)))->s.run P w=.ok v w->ups=[]->RepD w (Ow own0 ρ H) ρ d' v->o.wp P a w K Q:=by
  intro s v he hr hu hd;subst hu;unfold Oper.wp;rw[he];simp only[Sem.run_bind,hr,Result.andThen_ok,Sem.run_pure,Oper.upon];exact hK v w ρ ⟨Step.refl hm,hd⟩
 have val2:∀ {s:Sem Value},execOp a.eval o=(do pure (.value (<-s)))->(ups=[]/\∃v,s.run P w=.ok v w/\RepD w (Ow own0 ρ H) ρ d' v)->o.wp P a w K Q:=fun he ⟨hu,v,hr,hd⟩=>val he hr hu hd
 have mval:∀ {s:Sem Value},execOp a.eval o=(do pure (.value (<-s)))->MRun P own0 mt w0 ρ H w s ups (fun w' ow' ρ' v=>RepD w' ow' ρ' d' v)->o.wp P a w K Q:=by
  rintro s he ⟨v,w',ρ',hr,hs,hd⟩;unfold Oper.wp;rw[he];simp only[Sem.run_bind,hr,Result.andThen_ok,Sem.run_pure,Oper.upon];exact hK v w' ρ' ⟨hs,hd⟩
 have munit:∀ {s:Sem Unit},d'=.top->execOp a.eval o=(do s;pure .skip)->MRun P own0 mt w0 ρ H w s ups (fun _ _ _ _=>True)->o.wp P a w K Q:=by
  rintro s hd he ⟨v,w',ρ',hr,hs,_⟩;unfold Oper.wp;rw[he];simp only[Sem.run_bind,hr,Result.andThen_ok,Sem.run_pure,Oper.upon];exact hK _ w' ρ' ⟨hs,by subst hd;trivial⟩
 cases hop:o.op with
 | move x =>
  rw[hop]at hg;obtain ⟨d1,h1,hg⟩:=Zm hq hg;have hg':(d',ups)=(_,_):=hg;obtain ⟨e1,e2⟩:=Prod.mk.inj hg'
  exact val (s:=pure (a.eval x)) (by simp[execOp,hop]) rfl e2 (by rw[e1];exact h1 _ (ev x))
 | assign x =>
  rw[hop]at hg;obtain ⟨d1,h1,hg⟩:=Zm hq hg;have hg':(d',ups)=(_,_):=hg;obtain ⟨e1,e2⟩:=Prod.mk.inj hg'
  exact val (s:=pure (a.eval x)) (by simp[execOp,hop]) rfl e2 (by rw[e1];exact h1 _ (ev x))
 | pick c x y =>
  rw[hop]at hg;obtain ⟨d1,h1,hg⟩:=Zm hq hg;obtain ⟨hu,v,hr,hd⟩:=pickE_sound hq (h1 _ (ev c)) (ev x) (ev y) (fun v h=>by rw[h];rfl) (fun v h=>by rw[h];rfl) hg
  exact val (s:=do pure (if <-asBool (a.eval c) then a.eval x else a.eval y)) (by simp[execOp,hop]) hr hu hd
 | alloc t =>
  rw[hop]at hg;obtain ⟨ty,hty,hg⟩:=Yc hg;have hg':(d',ups)=(_,_):=hg;obtain ⟨e1,e2⟩:=Prod.mk.inj hg'
  exact mval (s:=Instr.alloc t true (.tuple #[])) (by simp only[execOp,hop]) (by rw[e1,e2];exact alloc_sound hm hnx0 (hΓ _ _ hty))
 | box t x =>
  rw[hop]at hg;obtain ⟨d1,h1,hg⟩:=Zm hq hg
  split at hg
  .rename_i e;have hg':(d',ups)=(_,_):=hg;obtain ⟨e1,e2⟩:=Prod.mk.inj hg';exact mval (s:=Instr.box t (a.eval x)) (by simp only[execOp,hop]) (by rw[e1,e2];exact newVar_sound hm hnx0 (e:=e) (h1 _ (ev x)) t)
  .exact hg.elim
 | build t ps =>
  rw[hop]at hg;obtain ⟨ty,hty,hg⟩:=Yc hg;obtain ⟨ds,hds,hg⟩:=needL_gives hq hg (evp ps.toList)
  exact val2 (by simp only[execOp,hop]) (build_sound hΓ (hΓ _ _ hty) (us:=ps.map fun p=>(p.1,a.eval p.2)) (by simpa using all2_parts hds) hg)
 | buildSlice t n ps =>
  rw[hop]at hg;obtain ⟨ty,hty,hg⟩:=Yc hg;obtain ⟨ds,hds,hg⟩:=needL_gives hq hg (evp ps.toList)
  exact mval (by simp only[execOp,hop]) (buildSlice_sound hΓ hm hnx0 (hΓ _ _ hty) (us:=ps.map fun p=>(p.1,a.eval p.2)) (by simpa using all2_parts hds) hg)
 | load t x =>
  rw[hop]at hg;obtain ⟨ty,hty,hg⟩:=Yc hg;obtain ⟨d1,h1,hg⟩:=Zm hq hg
  exact val2 (by simp only[execOp,hop]) (load_sound hm (hΓ _ _ hty) hq hg (h1 _ (ev x)))
 | store t x y =>
  rw[hop]at hg;obtain ⟨ty,hty,hg⟩:=Yc hg;obtain ⟨d1,h1,hg⟩:=Zm hq hg;obtain ⟨d2,h2,hg⟩:=Zm hq hg;obtain ⟨hd,hr⟩:=store_sound hm (hΓ _ _ hty) (h1 _ (ev x)) (h2 _ (ev y)) hg
  exact munit hd (by simp only[execOp,hop]) hr
 | nilCheck x =>
  rw[hop]at hg;obtain ⟨d1,h1,hg⟩:=Zm hq hg;have hx:=h1 _ (ev x)
  have key:∀ad,a.eval x=.pointer (some ad)->ups=[]->RepD w (Ow own0 ρ H) ρ d' (a.eval x)->o.wp P a w K Q:=fun ad he hu hd =>
   val (s:=pure (a.eval x)) (by simp[execOp,hop,he]) rfl hu hd
  split at hg
  .have hg':(d',ups)=(_,_):=hg;cases hg';have hx':=hx;obtain ⟨bn,z,c,hp,he⟩:=hx;exact key _ he rfl hx'
  .have hg':(d',ups)=(_,_):=hg;cases hg';have hx':=hx;obtain ⟨ad,he,_⟩:=hx;exact key _ he rfl hx'
  .have hg':(d',ups)=(_,_):=hg;cases hg';have hx':=hx;obtain ⟨b,base,cap,hp,he⟩:=hx;exact key _ he rfl hx'
  .exact hg.elim
 | binOp op t x y ty =>
  rw[hop]at hg;obtain ⟨d1,h1,hg⟩:=Zm hq hg;obtain ⟨d2,h2,hg⟩:=Zm hq hg
  exact val2 (by simp only[execOp,hop]) (binN_sound hΓ hq (h1 _ (ev x)) (h2 _ (ev y)) x y hg)
 | unOp op t x =>
  rw[hop]at hg;obtain ⟨d1,h1,hg⟩:=Zm hq hg;unfold unQ at hg
  split at hg
  .exact (hg.1 hq).elim
  .exact val2 (by simp only[execOp,hop]) (unE_sound (h1 _ (ev x)) hg)
 | convert s t x =>
  rw[hop]at hg;obtain ⟨d1,h1,hg⟩:=Zm hq hg
  exact mval (by simp only[execOp,hop]) (conv_sound hΓ hm hnx0 (h1 _ (ev x)) hg)
 | slice t x lo hi mx =>
  rw[hop]at hg;obtain ⟨ty,hty,hg⟩:=Yc hg;obtain ⟨d1,h1,hg⟩:=Zm hq hg;obtain ⟨l,hl,hg⟩:=needO_gives hq hg (evo lo);obtain ⟨h,hh,hg⟩:=needO_gives hq hg (evo hi);obtain ⟨m,hmx,hg⟩:=needO_gives hq hg (evo mx);unfold cutE at hg
  have hd:∀n e,ty.desc≠.array n e:=by
   intro n e he
   have ns:(sliceE Γ ty q H nx d1 l h m).gives P (d',ups)->False:=fun hg=>by
    unfold sliceE at hg;rw[he]at hg
    split at hg
    .split at hg<;>exact hg.elim
    .exact hg.elim
   split at hg
   .have nv:(viewE Γ ty q H nx d1 l h m).gives P (d',ups)->False:=fun hg=>by
     unfold viewE at hg;rw[he]at hg
     split at hg
     .exact hg.elim
     .exact ns hg
    unfold viewFE at hg;rw[he]at hg
    split at hg
    .split at hg
     .split at hg<;>exact hg.elim
     .exact nv hg
    .exact nv hg
   .exact ns hg
  have hmr:MRun P own0 mt w0 ρ H w (Instr.slice t (a.eval x) (lo.map a.eval) (hi.map a.eval) (mx.map a.eval)) ups fun w' ow' ρ' v=>RepD w' ow' ρ' d' v:=by
   split at hg
   .exact viewF_sound hΓ hm hnx0 (hΓ _ _ hty) hq (h1 _ (ev x)) hl hh hmx hg
   .exact slice_sound hΓ hm hnx0 (hΓ _ _ hty) hq (h1 _ (ev x)) hl hh hmx hg
  obtain ⟨v,w',ρ',hr,hs,hd'⟩:=hmr;rw[<-sliceAt_eq (hΓ _ _ hty) hd]at hr
  exact mval (by simp only[execOp,hop]) ⟨v,w',ρ',hr,hs,hd'⟩
 | makeSlice t l c =>
  rw[hop]at hg;obtain ⟨ty,hty,hg⟩:=Yc hg;obtain ⟨d1,h1,hg⟩:=Zm hq hg;obtain ⟨d2,h2,hg⟩:=Zm hq hg
  exact mval (by simp only[execOp,hop]) (makeSlice_sound hΓ hm hnx0 (hΓ _ _ hty) (h1 _ (ev l)) (h2 _ (ev c)) hg)
 | fieldAddr t x f =>
  rw[hop]at hg;obtain ⟨ty,hty,hg⟩:=Yc hg;obtain ⟨d1,h1,hg⟩:=Zm hq hg
  exact val2 (by simp only[execOp,hop]) (fieldAddr_sound hΓ (hΓ _ _ hty) (h1 _ (ev x)) hg)
 | field t x f =>
  rw[hop]at hg;obtain ⟨ty,hty,hg⟩:=Yc hg;obtain ⟨d1,h1,hg⟩:=Zm hq hg
  exact val2 (by simp only[execOp,hop]) (fieldE_sound hΓ (hΓ _ _ hty) hq (h1 _ (ev x)) hg)
 | indexAddr t x i =>
  rw[hop]at hg;obtain ⟨ty,hty,hg⟩:=Yc hg;obtain ⟨d1,h1,hg⟩:=Zm hq hg;obtain ⟨d2,h2,hg⟩:=Zm hq hg
  exact val2 (by simp only[execOp,hop]) (indexAddr_sound hΓ (hΓ _ _ hty) hq (h1 _ (ev x)) (h2 _ (ev i)) hg)
 | index t x i =>
  rw[hop]at hg;obtain ⟨ty,hty,hg⟩:=Yc hg;obtain ⟨d1,h1,hg⟩:=Zm hq hg;obtain ⟨d2,h2,hg⟩:=Zm hq hg
  exact val2 (by simp only[execOp,hop]) (index_sound hΓ (hΓ _ _ hty) hq (h1 _ (ev x)) (h2 _ (ev i)) hg)
 | extract x i =>
  rw[hop]at hg;obtain ⟨d1,h1,hg⟩:=Zm hq hg
  exact val2 (by simp only[execOp,hop]) (extract_sound (h1 _ (ev x)) hg)
 | call c =>
  rw[hop]at hg;obtain ⟨ds,hds,hg⟩:=needL_gives hq hg (evs c.args.toList)
  split at hg
  .rename_i f hf;have hargs:(c.args.map a.eval)=(c.args.toList.map a.eval).toArray:=by apply Array.ext';simp
   unfold Oper.wp;rcases call_sound hm hnx hq hds hg fun args u1 p hp j hj1 hj2=>passDs_fresh hp (hnx j hj1 hj2) with ⟨hpl,hcall⟩|⟨v0,hrun,v,ρ',he,hs,hd⟩
   rotate_left
   .cases he
    have hx:(execOp a.eval o).run P w=.ok (.value v0) w:=by
     rw[<-hargs]at hrun;simp[execOp,hop,resolve,hf,Act.eval,Deferred.ofValue,invoke,hrun]
    rw[hx];simp only[Oper.upon];exact hK v0 w ρ' ⟨hs,hd⟩
   have hx:(execOp a.eval o).run P w=.ok (.enter f (c.args.map a.eval)) w:=by
    simp[execOp,hop,resolve,hf,Act.eval,Deferred.ofValue,invoke,run_callFunc hpl]
   rw[hx];simp only[Oper.upon];rw[hargs];refine hcall.mono ?_;rintro e w' ⟨v,ρ',rfl,hs,hd⟩;exact hK v w' ρ' ⟨hs,hd⟩
  .rename_i t ht';obtain ⟨d1,hd1,hg⟩:=Zm hq hg;have hu:=hd1 _ (ht t)
   have go:∀(f:Nat) (ds':List D) (us':List Value) (caps:Array Value),a.tmps.getD t undef=.func (.func f) #[] caps->(c.args.map a.eval++caps)=us'.toArray->All2 (RepD w (Ow own0 ρ H) ρ) ds' us'->(callE (own f) H nx q f ds').gives P (d',ups)->o.wp P a w K Q:=by
    intro f ds' us' caps he hargs hds hg;unfold Oper.wp;rcases call_sound hm hnx hq hds hg fun args u1 p hp j hj1 hj2=>passDs_fresh hp (hnx j hj1 hj2) with ⟨hpl,hcall⟩|⟨v0,hrun,v,ρ',hev,hs,hd⟩
    rotate_left
    .cases hev
     have hx:(execOp a.eval o).run P w=.ok (.value v0) w:=by
      have he':a.eval (.tmp t)=.func (.func f) #[] caps:=he;rw[<-hargs]at hrun;simp[execOp,hop,resolve,ht',he',Deferred.ofValue,invoke,hrun]
     rw[hx];simp only[Oper.upon];exact hK v0 w ρ' ⟨hs,hd⟩
    have hx:(execOp a.eval o).run P w=.ok (.enter f (c.args.map a.eval++caps)) w:=by
     have he':a.eval (.tmp t)=.func (.func f) #[] caps:=he;simp[execOp,hop,resolve,ht',he',Deferred.ofValue,invoke,run_callFunc hpl]
    rw[hx];simp only[Oper.upon];rw[hargs];refine hcall.mono ?_;rintro e w' ⟨v,ρ',rfl,hs,hd⟩;exact hK v w' ρ' ⟨hs,hd⟩
   have hargs:(c.args.map a.eval)=(c.args.toList.map a.eval).toArray:=by apply Array.ext';simp
   unfold callvE at hg
   split at hg
   .rename_i f caps;obtain ⟨us,hue,hcaps⟩:=rep_f (ρ:=ρ) (show RepV w _ (.f f caps) _ from hu);exact go f _ (c.args.toList.map a.eval++us) _ hue (by rw[hargs];simp) (hds.append (All2.map_left hcaps)) hg
   .rename_i f;exact go f _ (c.args.toList.map a.eval) #[] (rep_x hu).1 (by rw[hargs];simp) hds hg
   .exact hg.elim
  .rename_i b hb
   have hx:∀s:Sem Value,builtin b c.argTypes o.type (c.args.map fun|.const _=>true|_=>false) (c.args.map a.eval)=(do pure (.value (<-s)))->execOp a.eval o=(do pure (.value (<-s))):=by
    intro s hs;simp only[execOp,hop,resolve,hb,invoke,pure_bind];exact hs
   have hargs:(c.args.map a.eval)=(c.args.toList.map a.eval).toArray:=by apply Array.ext';simp
   unfold builtinE at hg
   split at hg
   .split at hg
    .rename_i d t hts;obtain ⟨ty,hty,hg⟩:=Yc hg;generalize hus:c.args.toList.map a.eval=us at *
     match us,hds with
     | [u],⟨h0,_⟩ =>
      exact val2 (hx _ (by rw[hargs];rfl)) (len_sound (hΓ _ _ hty) h0 hts o.type hg)
    .exact hg.elim
   .split at hg
    .rename_i d t hts;obtain ⟨ty,hty,hg⟩:=Yc hg;generalize hus:c.args.toList.map a.eval=us at *
     match us,hds with
     | [u],⟨h0,_⟩ =>
      exact val2 (hx _ (by rw[hargs];rfl)) (capF_sound hm (hΓ _ _ hty) h0 hts o.type hg)
    .exact hg.elim
   .split at hg
    .rename_i s x;generalize hus:c.args.toList.map a.eval=us at *
     match us,hds with
     | [u,v],⟨h0,h1,_⟩ =>
      unfold appE at hg
      split at hg
      .split at hg
       .exact mval (hx _ (by rw[hargs];rfl)) (appendU_sound hΓ hm h0 h1 o.type hg)
       .exact hg.elim
      .exact mval (hx _ (by rw[hargs];rfl)) (appendF_sound hΓ hm hnx0 h0 h1 o.type hg)
      exact mval (hx _ (by rw[hargs];rfl)) (append_sound hΓ hm hnx0 h0 h1 o.type hg)
    .exact hg.elim
   .split at hg
    .rename_i r k off m;generalize hus:c.args.toList.map a.eval=us at *
     match us,hds with
     | [u],⟨h0,_⟩ =>
      exact mval (hx _ (by rw[hargs];rfl)) (clear_sound hΓ hm h0 o.type hg)
    .exact hg.elim
   .split at hg
    .rename_i x y;generalize hus:c.args.toList.map a.eval=us at *
     match us,hds with
     | [u,v],⟨h0,h1,_⟩ =>
      exact mval (hx _ (by rw[hargs];rfl)) (copy_sound hΓ hm h0 h1 o.type hg)
    .exact hg.elim
   .exact val2 (hx _ (by rw[hargs];rfl)) (minE_sound (up:=false) hds hg c.argTypes o.type)
   .exact val2 (hx _ (by rw[hargs];rfl)) (minE_sound (up:=true) hds hg c.argTypes o.type)
   .exact hg.elim
  .exact hg.elim
 | makeFunc fn first caps =>
  rw[hop]at hg;obtain ⟨ds,hds,hg⟩:=needL_gives hq hg (evs caps.toList);have hargs:(caps.map a.eval)=(caps.toList.map a.eval).toArray:=by apply Array.ext';simp
  exact mval (s:=Instr.makeFunc fn (first.map a.eval) (caps.map a.eval)) (by simp only[execOp,hop]) (by rw[hargs];exact makeFunc_sound hm a.eval hds hg)
 | _=>rw[hop]at hg;exact hg.elim
end
end Eng
end Go.Proofs.YtgenjpingdkmgaaGreatDoor
