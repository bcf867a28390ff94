/- Contracts of functions that this seat's law calls. No condition. -/
import Derived.Test.YtgenjpingdkmgaaGreatDoorG03
set_option maxRecDepth 100000
set_option linter.unusedSimpArgs false
set_option linter.unusedVariables false
namespace Go.Proofs.YtgenjpingdkmgaaGreatDoor
namespace Eng
variable {P:Program} {Γ:Nat->Option Ty} {own0 mt:Nat->Prop} {w0 w:World} {ow:Nat->Prop} {ρ:Nat->Option Pl} {H:Nat->Option Blk} {q:Bool}
 {d':D} {ups:Ups}
def OptRep (w:World) (ow:Nat->Prop) (ρ:Nat->Option Pl):Option D->Option Value->Prop
 | none,none=>True
 | some d,some u=>RepD w ow ρ d u
 | _,_=>False
theorem Yo {k:IntKind} {i:Int} {y:Nat} {code:BoundsCode} (h0:0<=i) (h1:i<=y):(Instr.sliceBound (.int k i) y code).run P w=.ok i.toNat w:=by
 simp[Instr.sliceBound,asIntOf,h0,h1]
theorem Yn {isSlice:Bool} {len cap:Nat} {lo hi:Option D} {ul uh:Option Value} {l hh:Int} (hl:OptRep w ow ρ lo ul) (hh':OptRep w ow ρ hi uh)
 (el:boundE 0 lo=some l) (eh:boundE len hi=some hh) (h0:0<=l) (h1:l<=hh) (h2:hh<=cap) :
 (Instr.sliceBounds isSlice len cap ul uh none).run P w=.ok (l.toNat,hh.toNat,cap) w:=by
 have bd:∀ {dflt:Int} {d:Option D} {u:Option Value} {x:Int},OptRep w ow ρ d u->boundE dflt d=some x->(u=none/\x=dflt)\/∃k,u=some (.int k x):=by
  intro dflt d u x hd he
  cases d with
  | none=>cases u with
   | none=>simp only[boundE,Option.some.injEq]at he;exact .inl ⟨rfl,he.symm⟩
   | some _=>exact hd.elim
  | some d=>cases u with
   | none=>exact hd.elim
   | some u =>
    unfold boundE at he
    split at he
    .rename_i h;cases h
    .rename_i k i h;cases h;cases he;obtain ⟨rfl,_⟩:=rep_x hd;exact .inr ⟨k,rfl⟩
    .cases he
 rcases bd hl el with ⟨rfl,rfl⟩|⟨k1,rfl⟩<;>rcases bd hh' eh with ⟨rfl,rfl⟩|⟨k2,rfl⟩
 .simp[Instr.sliceBounds]
 .simp[Instr.sliceBounds,Yo (P:=P) (w:=w) (k:=k2) (by omega:0<=hh) h2]
 .have:l<=((len:Nat):Int):=h1;simp[Instr.sliceBounds,Yo (P:=P) (w:=w) (k:=k1) h0 this]
 .have h3:l<=((hh.toNat:Nat):Int):=by omega
  simp[Instr.sliceBounds,Yo (P:=P) (w:=w) (k:=k2) (by omega:0<=hh) h2,Yo (P:=P) (w:=w) (k:=k1) h0 h3]
theorem sub_s {k:Nat} {rows:List (List V)} {a:Option Addr} {n c l h:Nat} (hr:RepV w ow (.s k rows) (.slice a n c)) (hlh:l<=h) (hh:h<=rows.length) :
 RepV w ow (.s k ((rows.take h).drop l)) (.slice (if c=l then a else a.map (·.add (l*k))) (h - l) (c - l)):=by
 obtain ⟨a',c',he,hcap,hz,hk,hc⟩:=rep_s hr;cases he;have hlen:((rows.take h).drop l).length=h - l:=by simp;omega
 refine mk_s hlen.symm (fun i r hi=>?_) (fun ha=>?_) (by omega) (fun ad ha i r j v hi hj=>?_)
 .rw[List.getElem?_drop,List.getElem?_take]at hi
  split at hi
  .exact hk _ _ hi
  .cases hi
 .split at ha
  .rename_i hcl;have:h - l=0:=by omega
   exact List.eq_nil_of_length_eq_zero (by rw[hlen];exact this)
  .cases a with
   | none=>simp[hz rfl]
   | some _=>cases ha
 .have hi':=hi;rw[List.getElem?_drop,List.getElem?_take]at hi
  split at hi
  .rename_i hlt
   split at ha
   .omega
   .cases a with
    | none=>cases ha
    | some ad0 =>
     simp only[Option.map_some,Option.some.injEq]at ha;subst ha;obtain ⟨x,hx,hv,hn⟩:=hc ad0 rfl _ _ _ _ hi hj;refine ⟨x,addr_add_mul _ _ _ _ ?_,hv,by rwa [Yg]⟩;rw[show l*k+(i*k+j)=(l+i)*k+j by rw[Nat.add_mul];omega];exact hx
  .cases hi
theorem MRun.pure {α:Type} {s:Sem α} {R:World->(Nat->Prop)->(Nat->Option Pl)->α->Prop} (hm:Mem own0 mt w0 ρ H w) {v:α} (hr:s.run P w=.ok v w) (h:R w (Ow own0 ρ H) ρ v):MRun P own0 mt w0 ρ H w s [] R :=
 ⟨v,w,ρ,hr,Step.refl hm,h⟩
theorem slice_sound (hΓ:TysOk P Γ) (hm:Mem own0 mt w0 ρ H w) {nx:Nat} (hnx:H nx=none) {t:TypeId} {ty:Ty} (ht:TyOk P t ty) {x:D} {u:Value} {lo hi mx:Option D} {ul uh um:Option Value} (hq:q=true)
 (hx:RepD w (Ow own0 ρ H) ρ x u) (hl:OptRep w (Ow own0 ρ H) ρ lo ul) (hh:OptRep w (Ow own0 ρ H) ρ hi uh) (hmx:OptRep w (Ow own0 ρ H) ρ mx um)
 (hg:(sliceE Γ ty q H nx x lo hi mx).gives P (d',ups)):MRun P own0 mt w0 ρ H w (Instr.slice t u ul uh um) ups fun w' ow' ρ' v=>RepD w' ow' ρ' d' v:=by
 unfold sliceE at hg;have hu:=ht.under
 split at hg
 .rename_i m
  split at hg
  .rename_i km kh
   cases um with
   | none=>exact hmx.elim
   | some um =>
   cases uh with
   | none=>exact hh.elim
   | some uh =>
   cases ul with
   | some _=>exact hl.elim
   | none =>
   obtain ⟨rfl,_⟩:=rep_x hmx;obtain ⟨rfl,_⟩:=rep_x hh
   split at hg
   .rename_i e hdesc;rw[hdesc]at hu
    split at hg
    .rename_i te hte;have hts:=Zr (hΓ _ _ hte)
     have key:∀(a:Option Addr) (n c:Nat),u=.slice a n c->(Tr.ret (D.e (.c (.o nx 0)),[(nx,Blk.row te.size [])])).gives P (d',ups) ->
      MRun P own0 mt w0 ρ H w (Instr.slice t u none (some (.int kh 0)) (some (.int km 0))) ups fun w' ow' ρ' v=>RepD w' ow' ρ' d' v:=by
      intro a n c hs hg;have hg':(d',ups)=(_,_):=hg;cases hg';subst hs;refine ⟨.slice a 0 0,w,upd ρ nx (some .nil),?_,Step.newNil hm hnx,.nil,by rw[upd_same],rfl,a,rfl⟩
      have b1:(Instr.sliceBounds true n c none (some (.int kh 0)) (some (.int km 0))).run P w=.ok (0,0,0) w:=by
       simp[Instr.sliceBounds,Yo (P:=P) (w:=w) (i:=0) (y:=c) (Int.le_refl 0) (by omega),Yo (P:=P) (w:=w) (i:=0) (y:=0) (Int.le_refl 0) (by omega)]
      simp[Instr.slice,run_underlying hu,b1,hts]
     split at hg
     .rename_i k rows;obtain ⟨a,c,rfl,_⟩:=rep_s (show RepV w _ (.s k rows) u from hx);exact key _ _ _ rfl hg
     .rename_i r n;obtain ⟨m,_,h⟩:=hx
      cases m with
      | nil=>obtain ⟨_,a,rfl⟩:=h;exact key _ _ _ rfl hg
      | blk=>obtain ⟨rfl,_⟩:=h;exact key _ _ _ rfl hg
     .have:=rep_nil hx;subst this;exact key _ _ _ rfl hg
     .exact hg.elim
    .exact hg.elim
   .exact hg.elim
  .exact hg.elim
 .cases um with
  | some _=>exact hmx.elim
  | none =>
  split at hg
  .rename_i hdesc;rw[hdesc]at hu
   split at hg
   .rename_i s;obtain ⟨rfl,_⟩:=rep_x hx
    split at hg
    .rename_i l hh' el eh;obtain ⟨h0,hg⟩:=hg;obtain ⟨h1,h2,h3⟩:=h0 hq;have hg':(d',ups)=(_,_):=hg;cases hg';refine MRun.pure hm ?_ (RepV.x _ rfl);simp[Instr.slice,run_underlying hu,Yn (P:=P) (isSlice:=false) hl hh el eh h1 h2 h3]
    .exact hg.elim
   .exact hg.elim
  .rename_i e hdesc;rw[hdesc]at hu
   split at hg
   .rename_i te hte;have hts:=Zr (hΓ _ _ hte)
    split at hg
    .rename_i k rows
     split at hg
     .rename_i l hh' el eh;obtain ⟨h0,hg⟩:=hg;obtain ⟨rfl,h1,h2,h3⟩:=h0 hq;have hg':(d',ups)=(_,_):=hg;cases hg';have hx':RepV w (Ow own0 ρ H) (.s te.size rows) u:=hx;obtain ⟨a,c,rfl,hcap,_⟩:=rep_s hx';refine MRun.pure hm ?_ (sub_s (l:=l.toNat) (h:=hh'.toNat) hx' (by omega) (by omega));simp[Instr.slice,run_underlying hu,Yn (P:=P) (isSlice:=true) (cap:=c) hl hh el eh h1 h2 (by omega),hts]
     .exact hg.elim
    .have hu0:=rep_nil hx;subst hu0
     split at hg
     .rename_i l hh' el eh;obtain ⟨h0,hg⟩:=hg;obtain ⟨rfl,rfl⟩:=h0 hq;have hg':(d',ups)=(_,_):=hg;cases hg';refine MRun.pure hm ?_ (RepV.x _ rfl);simp[Instr.slice,run_underlying hu,Yn (P:=P) (isSlice:=true) (len:=0) (cap:=0) hl hh el eh (by omega) (by omega) (by omega),hts]
     .exact hg.elim
    .rename_i r n
     split at hg
     .cases ul with
      | some _=>exact hl.elim
      | none =>
      split at hg
      .rename_i hh' eh;obtain ⟨h0,hg⟩:=hg;obtain ⟨h1,h2⟩:=h0 hq;have hg':(d',ups)=(_,_):=hg;cases hg';obtain ⟨m,hm',h⟩:=hx
       cases m with
       | nil =>
        obtain ⟨rfl,a,rfl⟩:=h;refine MRun.pure hm (v:=.slice a 0 0) ?_ ⟨.nil,hm',by omega,a,rfl⟩;have hz:hh'=0:=by omega
        simp[Instr.slice,run_underlying hu,Yn (P:=P) (isSlice:=true) (len:=0) (cap:=0) (lo:=none) (ul:=none) (w:=w) (ow:=Ow own0 ρ H) (ρ:=ρ) trivial hh rfl eh (by omega) (by omega) (by omega),hts,hz]
       | blk b base cap =>
        obtain ⟨rfl,hle⟩:=h;refine MRun.pure hm (v:=.slice (some ⟨b,base,none⟩) hh'.toNat cap) ?_ ⟨.blk b base cap,hm',rfl,by omega⟩;have hb:=Yn (P:=P) (isSlice:=true) (len:=n) (cap:=cap) (lo:=none) (ul:=none) (w:=w) (ow:=Ow own0 ρ H) (ρ:=ρ) trivial hh rfl eh (by omega) (by omega) (by omega);simp[Instr.slice,run_underlying hu,hb,hts,Zw]
      .exact hg.elim
     .split at hg
      .rename_i l hh' el eh
       have own:∀ {k:Nat} {rows:List (List V)} {ρ1:Nat->Option Pl} {ow1:Nat->Prop},RepV w ow1 (.s k (rows.take n)) u->k=te.size->0<=l->l<=hh'->hh'<=n->n<=rows.length ->
        ∃v,(Instr.slice t u ul uh none).run P w=.ok v w/\RepD w ow1 ρ1 (.e (.c (.v (.s k ((rows.take hh'.toNat).drop l.toNat))))) v:=by
        intro k rows ρ1 ow1 hv hk h1 h2 h3 h4;subst hk;obtain ⟨a,c,he,hcap,_⟩:=rep_s hv;have hlen:(rows.take n).length=n:=by simp;omega
        rw[hlen]at he hcap;subst he;have hs:=sub_s (l:=l.toNat) (h:=hh'.toNat) hv (by omega) (by omega);rw[List.take_take,Nat.min_eq_left (by omega)]at hs;refine ⟨_,?_,hs⟩;simp[Instr.slice,run_underlying hu,Yn (P:=P) (isSlice:=true) (cap:=c) hl hh el eh h1 h2 (by omega),hts]
       split at hg
       .rename_i k rows hr;obtain ⟨⟨h0,h1,h2,h3,h4⟩,hg⟩:=hg;have hg':(d',ups)=(_,_):=hg;cases hg';have hs:=Step.freeze hm hr;have hv:=pure_ice (k:=k) (rows:=rows) hs.mem (upd_same _ _ _) (RepC.mono (Keep.refl _ _) hs.ow (.refl _) (show RepC w _ ρ (.o r n) u from hx)) h4;obtain ⟨v,hrun,hd⟩:=own (ρ1:=ρ) hv h0 h1 h2 h3 h4;exact ⟨v,w,ρ,hrun,hs,hd⟩
       .rename_i k rows hr;obtain ⟨h0,hg⟩:=hg;obtain ⟨h0,h1,h2,h3,h4⟩:=h0 hq;have hg':(d',ups)=(_,_):=hg;cases hg';obtain ⟨v,hrun,hd⟩:=own (ρ1:=ρ) (pure_ice hm hr hx h4) h0 h1 h2 h3 h4;exact MRun.pure hm hrun hd
       .exact hg.elim
      .exact hg.elim
    .exact hg.elim
   .exact hg.elim
  .exact hg.elim
theorem minI_sound {k:IntKind} {up:Bool}:∀ {ds:List D} {us:List Value} {x:Int},All2 (RepD w ow ρ) ds us->(minI k up x ds).gives P (d',ups) ->
 ups=[]/\∃v,(us.foldlM (if up then Builtin.max2 else Builtin.min2) (.int k x)).run P w=.ok v w/\RepD w ow ρ d' v
 | [],[],x,_,hg=>by
  obtain ⟨rfl,rfl⟩:=gives_x hg
  exact ⟨rfl,_,rfl,RepV.x _ rfl⟩
 | d::ds,u::us,x,⟨h0,h1⟩,hg=>by
  unfold minI at hg
  split at hg
  .rename_i h;cases h
  .rename_i k' y r h;cases h;obtain ⟨rfl,hg⟩:=hg;obtain ⟨rfl,_⟩:=rep_x h0;obtain ⟨hu,v,hr,hv⟩:=minI_sound h1 hg;refine ⟨hu,v,?_,hv⟩;rw[<-hr];cases up<;>simp[List.foldlM,Builtin.max2,Builtin.min2]
  .exact hg.elim
 | [],_::_,_,h,_=>h.elim
 | _::_,[],_,h,_=>h.elim
theorem minE_sound {up:Bool} {ds:List D} {us:List Value} (h:All2 (RepD w ow ρ) ds us) (hg:(minE up ds).gives P (d',ups)) (ts:Array TypeId) (T:TypeId) :
 ups=[]/\∃v,((if up then Builtin.max_ else Builtin.min_) ts T us.toArray).run P w=.ok v w/\RepD w ow ρ d' v:=by
 unfold minE at hg
 split at hg
 .rename_i k x r
  match us,h with
  | u::us,⟨h0,h1⟩ =>
   obtain ⟨rfl,_⟩:=rep_x h0;obtain ⟨hu,v,hr,hv⟩:=minI_sound h1 hg;refine ⟨hu,v,?_,hv⟩;rw[<-hr];cases up<;>simp[Builtin.max_,Builtin.min_]
 .exact hg.elim
end Eng
end Go.Proofs.YtgenjpingdkmgaaGreatDoor
namespace Go.Proofs.YtgenjpingdkmgaaGreatDoor
namespace Eng
variable {P:Program} {Γ:Nat->Option Ty} {own0 mt:Nat->Prop} {w0 w w':World} {ow ow':Nat->Prop} {ρ ρ':Nat->Option Pl} {H:Nat->Option Blk} {q:Bool}
 {d':D} {ups:Ups}
theorem RepC.ren {τ:Nat->Nat} {c:C} {u:Value} (h:RepC w ow ρ c u) (hs:∀r,r∈idsC c->∀m,ρ r=some m->ρ' (τ r)=some m) (ho:∀b,b<w.heap.size->ow' b->ow b):RepC w ow' ρ' (renC τ c) u:=by
 cases c with
 | v a=>exact RepV.mono h (Keep.refl _ _) ho
 | o r n=>obtain ⟨m,hm,h⟩:=h;exact ⟨m,hs r (by simp[idsC]) _ hm,h⟩
theorem all2_ren {τ:Nat->Nat}:∀ {cs:List C} {us:List Value},All2 (RepC w ow ρ) cs us->(∀r,r∈cs.flatMap idsC->∀m,ρ r=some m->ρ' (τ r)=some m)->(∀b,b<w.heap.size->ow' b->ow b)->All2 (RepC w ow' ρ') (cs.map (renC τ)) us
 | [],[],_,_,_=>trivial
 | c::cs,u::us,⟨h0,h1⟩,hs,ho=>⟨h0.ren (fun r hr=>hs r (by simp[hr])) ho,all2_ren h1 (fun r hr=>hs r (by simp only[List.flatMap_cons,List.mem_append];exact .inr hr)) ho⟩
 | [],_::_,h,_,_=>h.elim
 | _::_,[],h,_,_=>h.elim
theorem RepE.renAll {τ:Nat->Nat} {e:E} {u:Value} (h:RepE w ow ρ e u) (hs:∀r m,ρ r=some m->ρ' (τ r)=some m) (ho:∀b,b<w.heap.size->ow' b->ow b):RepE w ow' ρ' (renE τ e) u:=by
 cases e with
 | c a=>exact RepC.ren h (fun r _ m=>hs r m) ho
 | a cs=>obtain ⟨us,hu,h⟩:=h;exact ⟨us,hu,all2_ren h (fun r _ m=>hs r m) ho⟩
theorem RepD.renAll {τ:Nat->Nat} {d:D} {u:Value} (h:RepD w ow ρ d u) (hs:∀r m,ρ r=some m->ρ' (τ r)=some m) (ho:∀b,b<w.heap.size->ow' b->ow b):RepD w ow' ρ' (renD τ d) u:=by
 induction d generalizing u with
 | e a=>exact RepE.renAll h hs ho
 | t es =>
  obtain ⟨us,hu,h⟩:=h
  exact ⟨us,hu,All2.map_left (h.mono fun _ _ h=>h.renAll hs ho)⟩
 | p b off=>obtain ⟨bn,z,c,hb,hu⟩:=h;exact ⟨bn,z,c,hs _ _ hb,hu⟩
 | q cs =>
  obtain ⟨ad,hu,h⟩:=h;refine ⟨ad,hu,fun j v hj=>?_⟩;obtain ⟨x,hx,hv,hn⟩:=h j v hj;have hlt:ad.block<w.heap.size:=by have:=World.block_lt_of_cell? _ _ hx;rwa [Yg]at this
  exact ⟨x,hx,hv.mono (Keep.refl _ _) ho,fun h=>hn (ho _ hlt h)⟩
 | w r k i off=>obtain ⟨b,base,cap,hb,hu⟩:=h;exact ⟨b,base,cap,hs _ _ hb,hu⟩
 | u r k off n=>obtain ⟨m,hm,h⟩:=h;exact ⟨m,hs _ _ hm,h⟩
 | g b d ih=>exact ⟨fun hb=>ih (h.1 hb),h.2⟩
 | top=>trivial
theorem RepB.ren {τ:Nat->Nat} {i i':Nat} {blk:Blk} (h:RepB w ow ρ i blk) (hp:∀m,ρ i=some m->ρ' i'=some m) (hs:∀r,r∈idsB blk->∀m,ρ r=some m->ρ' (τ r)=some m) (ho:∀b,b<w.heap.size->ow' b->ow b) :
 RepB w ow' ρ' i' (renBlk τ blk):=by
 cases blk with
 | loc cs =>
  obtain ⟨b,c,hb,vs,T,fr,hh,hf,ha⟩:=h
  exact ⟨b,c,hp _ hb,vs,T,fr,hh,hf,all2_ren ha hs ho⟩
 | row k rows =>
  obtain ⟨hl,m,hm,h⟩:=h;refine ⟨hl,m,hp _ hm,?_⟩
  cases m with
  | nil=>exact h
  | blk b base cap =>
   obtain ⟨h1,vs,T,fr,hh,hf,h2,h3⟩:=h
   exact ⟨h1,vs,T,fr,hh,hf,h2,fun i r j v hi hj=>(h3 i r j v hi hj).imp fun x ⟨hx,hv⟩=>⟨hx,hv.mono (Keep.refl _ _) ho⟩⟩
 | ice k rows =>
  obtain ⟨hl,m,hm,h⟩:=h;refine ⟨hl,m,hp _ hm,?_⟩
  cases m with
  | nil=>exact h
  | blk b base cap =>
   obtain ⟨h1,vs,T,fr,hh,hf,h2,h3⟩:=h
   exact ⟨h1,vs,T,fr,hh,hf,h2,fun i r j v hi hj=>(h3 i r j v hi hj).imp fun x ⟨hx,hv⟩=>⟨hx,hv.mono (Keep.refl _ _) ho⟩⟩
 | full k rows c =>
  obtain ⟨⟨hl,m,hm,h⟩,hc⟩:=h;refine ⟨⟨hl,m,hp _ hm,?_⟩,fun m' hm'=>hc m' (by rw[hp _ hm]at hm';rw[hm,hm'])⟩
  cases m with
  | nil=>exact h
  | blk b base cap =>
   obtain ⟨h1,vs,T,fr,hh,hf,h2,h3⟩:=h
   exact ⟨h1,vs,T,fr,hh,hf,h2,fun i r j v hi hj=>(h3 i r j v hi hj).imp fun x ⟨hx,hv⟩=>⟨hx,hv.mono (Keep.refl _ _) ho⟩⟩
 | rowx k rows n cs =>
  obtain ⟨hl,hn,hk,b,base,cap,hm,h1,vs,T,fr,hh,hf,h2,h3,h4⟩:=h;refine ⟨hl,hn,by rw[List.length_map];exact hk,b,base,cap,hp _ hm,h1,vs,T,fr,hh,hf,h2,fun m r j v hne hi hj=>(h3 m r j v hne hi hj).imp fun x ⟨hx,hv⟩=>⟨hx,hv.mono (Keep.refl _ _) ho⟩,fun j c hj=>?_⟩;rw[List.getElem?_map,Option.map_eq_some_iff]at hj;obtain ⟨c0,hj,rfl⟩:=hj;obtain ⟨x,hx,hr⟩:=h4 j c0 hj;refine ⟨x,hx,(all2_ren (cs:=[c0]) (us:=[x]) (ow':=ow') (ρ':=ρ') (τ:=τ) ⟨hr,trivial⟩ (fun r hr'=>hs r ?_) ho).1⟩;rw[List.flatMap_cons,List.flatMap_nil,List.append_nil]at hr'
  exact List.mem_flatMap.2 ⟨c0,List.mem_of_getElem? hj,hr'⟩
 | gone=>trivial
theorem live_ren {τ:Nat->Nat} {b:Blk}:live (some (renBlk τ b))=live (some b):=by cases b<;>rfl
theorem solid_ren {τ:Nat->Nat} {b:Blk}:solid (some (renBlk τ b))=solid (some b):=by cases b<;>rfl
theorem Yu {b:Option Blk} (h:live b=true):solid b=true:=by
 cases b with
 | none=>cases h
 | some b=>cases b<;>simp_all[live,solid]
theorem place_of_live (hm:Mem own0 mt w0 ρ H w) {r:Nat} (h:live (H r)=true):∃m,ρ r=some m:=by
 cases hr:H r with
 | none=>rw[hr]at h;cases h
 | some b =>
  have hb:=hm.blks r b hr
  cases b with
  | loc cs=>obtain ⟨b,c,hb,_⟩:=hb;exact ⟨_,hb⟩
  | row k rows=>obtain ⟨_,m,hm,_⟩:=hb;exact ⟨_,hm⟩
  | full k rows c=>obtain ⟨⟨_,m,hm,_⟩,_⟩:=hb;exact ⟨_,hm⟩
  | rowx k rows n cs=>obtain ⟨_,_,_,_,_,_,hm,_⟩:=hb;exact ⟨_,hm⟩
  | _=>rw[hr]at h;cases h
theorem Step.grow (hm:Mem own0 mt w0 ρ H w) (hk:KeepM (fun _=>False) w w'):Step own0 mt w0 ρ H w ρ H w':=by
 have k:Keep w (Ow own0 ρ H) w':=⟨hk.size,fun b hb _=>hk.block b hb fun h=>h⟩
 refine ⟨.refl _,k,fun _ _ h=>h,?_⟩
 exact {
  blks:=fun i b hb=>(hm.blks i b hb).mono k (fun _ _ h=>h) (.refl _) fun b c k' hp _=>hk.block b (hm.fresh i _ _ _ hp).2.1 fun h=>h
  defd:=hm.defd
  inj:=hm.inj
  fresh:=fun i b c k' hp=>by
   obtain ⟨h1,h2,h3⟩:=hm.fresh i b c k' hp;exact ⟨h1,Nat.lt_of_lt_of_le h2 hk.size,h3⟩
  keep:=hm.keep.trans ⟨hk.os,hk.tape,hk.output,hk.size,fun b hb _=>hk.block b hb fun h=>h⟩
  own0:=hm.own0
  glob:=hm.glob }
theorem pos_spec:∀ {l:List Nat} {r:Nat},r∈l->pos l r<l.length/\l[pos l r]?=some r
 | x::xs,r,h=>by
  by_cases e:r=x
  .subst e;simp[pos]
  .rcases List.mem_cons.1 h with h|h
   .exact absurd h e
   .have:=pos_spec h;exact ⟨by simp[pos,e,this.1],by simp only[pos,e,if_false];exact this.2⟩
theorem nodup_spec:∀ {l:List Nat},nodup l=true->∀ {i j:Nat} {r:Nat},l[i]?=some r->l[j]?=some r->i=j
 | [],_,i,j,r,h,_=>by simp at h
 | x::xs,hn,i,j,r,hi,hj=>by
  simp only[nodup,Bool.and_eq_true,Bool.not_eq_true']at hn;have nm:x∉xs:=by simpa using hn.1
  cases i with
  | zero =>
   cases j with
   | zero=>rfl
   | succ j=>simp at hi hj;subst hi;exact absurd (List.mem_of_getElem? hj) nm
  | succ i =>
   cases j with
   | zero=>simp at hi hj;subst hj;exact absurd (List.mem_of_getElem? hi) nm
   | succ j=>simp at hi hj;rw[nodup_spec hn.2 hi hj]
theorem updL_out {τ:Nat->Nat}:∀ {bs:List Blk} {i0:Nat} {H:Nat->Option Blk},(∀i j,i<bs.length->j<bs.length->τ (i0+i)=τ (i0+j)->i=j) ->
 (∀i b,bs[i]?=some b->updL H (outUps τ i0 bs) (τ (i0+i))=some (renBlk τ b))/\∀j,(∀i,i<bs.length->j≠τ (i0+i))->updL H (outUps τ i0 bs) j=H j
 | [],i0,H,_=>⟨fun i b h=>by simp at h,fun j _=>rfl⟩
 | b::bs,i0,H,hinj=>by
  have ih:=updL_out (τ:=τ) (bs:=bs) (i0:=i0+1) (H:=upd H (τ i0) (some (renBlk τ b))) (fun i j hi hj h=>by
   have:=hinj (i+1) (j+1) (by simp;omega) (by simp;omega) (by rw[show i0+(i+1)=i0+1+i by omega,show i0+(j+1)=i0+1+j by omega];exact h)
   omega)
  constructor
  .intro i b' hb
   cases i with
   | zero =>
    simp at hb;subst hb;simp only[outUps,updL,Nat.add_zero];rw[ih.2 (τ i0) fun i hi e=>?_]
    .simp
    .have:=hinj 0 (i+1) (by simp) (by simp;omega) (by rw[show i0+(i+1)=i0+1+i by omega];exact e)
     omega
   | succ i =>
    simp at hb;have:=ih.1 i b' hb;simp only[outUps,updL];rw[show i0+(i+1)=i0+1+i by omega];exact this
  .intro j hj;simp only[outUps,updL];rw[ih.2 j fun i hi=>by have:=hj (i+1) (by simp;omega);rwa [show i0+(i+1)=i0+1+i by omega]at this];exact Zg _ _ (by have:=hj 0 (by simp);simpa using this)
def rho0 (ρ:Nat->Option Pl) (hs:List Nat) (i:Nat):Option Pl:=(hs[i]?).bind ρ
def ownC (own0:Nat->Prop) (ρ:Nat->Option Pl) (H:Nat->Option Blk) (hs:List Nat) (b:Nat):Prop:=Ow own0 ρ H b/\¬Hd (rho0 ρ hs) b
section hand
variable {hs:List Nat}
theorem hd_ow (hl:∀r,r∈hs->live (H r)=true) {b:Nat} (h:Hd (rho0 ρ hs) b):∃r base c,r∈hs/\ρ r=some (.blk b base c)/\Ow own0 ρ H b:=by
 obtain ⟨i,base,c,h⟩:=h;unfold rho0 at h
 cases hi:hs[i]? with
 | none=>simp[hi]at h
 | some r =>
  simp only[hi,Option.bind_some]at h;exact ⟨r,base,c,List.mem_of_getElem? hi,h,.inr ⟨r,base,c,h,hl r (List.mem_of_getElem? hi)⟩⟩
theorem not_hd (hm:Mem own0 mt w0 ρ H w) (hl:∀r,r∈hs->live (H r)=true) {j b base c:Nat} (hp:ρ j=some (.blk b base c)) (hj:solid (H j)=true) (hn:j∉hs):¬Hd (rho0 ρ hs) b:=by
 intro h;obtain ⟨r,base',c',hr,hp',_⟩:=hd_ow (own0:=own0) hl h;exact hm.inj j r _ _ _ _ _ _ hj (Yu (hl r hr)) hp hp' (fun e=>hn (e ▸ hr)) rfl
theorem hand_in (hm:Mem own0 mt w0 ρ H w) (hn:nodup hs=true) (hl:∀r,r∈hs->live (H r)=true) (hc:∀r,r∈hs->∀b,H r=some b->∀x,x∈idsB b->x∈hs) :
 Mem (ownC own0 ρ H hs) (Hd (rho0 ρ hs)) w (rho0 ρ hs) (fun i=>(hs.map fun r=>renBlk (pos hs) ((H r).getD .gone))[i]?) w /\
 ∀b,Ow (ownC own0 ρ H hs) (rho0 ρ hs) (fun i=>(hs.map fun r=>renBlk (pos hs) ((H r).getD .gone))[i]?) b->Ow own0 ρ H b:=by
 have hbi:∀ {i:Nat} {b:Blk},(hs.map fun r=>renBlk (pos hs) ((H r).getD .gone))[i]?=some b->∃r b0,hs[i]?=some r/\H r=some b0/\b=renBlk (pos hs) b0:=by
  intro i b h;simp only[List.getElem?_map,Option.map_eq_some_iff]at h;obtain ⟨r,hr,rfl⟩:=h;have:=hl r (List.mem_of_getElem? hr)
  cases h0:H r with
  | none=>rw[h0]at this;cases this
  | some b0=>exact ⟨r,b0,hr,h0,rfl⟩
 have how:∀b,Ow (ownC own0 ρ H hs) (rho0 ρ hs) (fun i=>(hs.map fun r=>renBlk (pos hs) ((H r).getD .gone))[i]?) b->Ow own0 ρ H b:=by
  rintro b (h|⟨i,base,c,hi,_⟩)
  .exact h.1
  .obtain ⟨_,_,_,_,_,h⟩:=hd_ow (own0:=own0) (H:=H) hl ⟨i,base,c,hi⟩;exact h
 have hpos:∀r,r∈hs->∀m,ρ r=some m->rho0 ρ hs (pos hs r)=some m:=fun r hr m h=>by
  simp[rho0,(pos_spec hr).2,h]
 refine ⟨?_,how⟩
 exact {
  blks:=fun i b h=>by
   obtain ⟨r,b0,hr,h0,rfl⟩:=hbi h;have hmem:=List.mem_of_getElem? hr;refine (hm.blks r b0 h0).ren (fun m h=>by simp[rho0,hr,h]) (fun x hx=>hpos x (hc r hmem b0 h0 x hx)) fun b _ h=>how b h
  defd:=fun i h=>by
   have:hs[i]?=none:=by
    simp only[List.getElem?_map,Option.map_eq_none_iff]at h;exact h
   simp[rho0,this]
  inj:=fun i j b c k b' c' k' h1 h2 h3 h4 hne=>by
   unfold rho0 at h3 h4
   cases hi:hs[i]? with
   | none=>simp[hi]at h3
   | some r =>
    cases hj:hs[j]? with
    | none=>simp[hj]at h4
    | some r' =>
     simp only[hi,hj,Option.bind_some]at h3 h4;exact hm.inj r r' _ _ _ _ _ _ (Yu (hl r (List.mem_of_getElem? hi))) (Yu (hl r' (List.mem_of_getElem? hj))) h3 h4 (fun e=>hne (nodup_spec hn hi (e ▸ hj)))
  fresh:=fun i b c k h=>by
   have hh:Hd (rho0 ρ hs) b:=⟨i,c,k,h⟩
   obtain ⟨r,base,c',hr,hp,_⟩:=hd_ow (own0:=own0) hl hh;exact ⟨.inr hh,(hm.fresh r _ _ _ hp).2.1,fun ho=>ho.2 hh⟩
  keep:=KeepM.refl _ _
  own0:=fun b h=>hm.ltOw h.1
  glob:=hm.glob.next2 hm.keep (fun _ e=>.inl e) fun b hb=>by
   have key:∀i base cap,ρ i=some (.blk b base cap)->w0.heap.size<=b\/(mt b\/own0 b):=fun i base cap hp=>by
    rcases (hm.fresh i _ _ _ hp).1 with e|e
    .exact .inl e
    .exact .inr (.inl e)
   rcases hb with hb|hb
   .obtain ⟨r,base,c',hr,hp,_⟩:=hd_ow (own0:=own0) hl hb;exact key r _ _ hp
   .rcases hb.1 with e|⟨i,base,cap,hp,_⟩
    .exact .inr (.inr e)
    .exact key i _ _ hp }
theorem hand_out (hm:Mem own0 mt w0 ρ H w) (hn:nodup hs=true) (hl:∀r,r∈hs->live (H r)=true) {nx:Nat} (hnx:∀j,nx<=j->j<nx+64->H j=none) {bo:List Blk} (hb1:hs.length<=bo.length) (hb2:bo.length<=hs.length+64)
 (hsub:Sub (rho0 ρ hs) ρ') (hm':Mem (ownC own0 ρ H hs) (Hd (rho0 ρ hs)) w ρ' (fun i=>bo[i]?) w') :
 ∃ ρ'',Step own0 mt w0 ρ H w ρ'' (updL H (outUps (backT hs nx) 0 bo)) w'/\∀d u,RepD w' (Ow (ownC own0 ρ H hs) ρ' fun i=>bo[i]?) ρ' d u->RepD w' (Ow own0 ρ'' (updL H (outUps (backT hs nx) 0 bo))) ρ'' (renD (backT hs nx) d) u:=by
 have hdef:∀r,r∈hs->¬(nx<=r/\r<nx+64):=fun r hr ⟨h1,h2⟩=>by
  have:=hl r hr;rw[hnx r h1 h2]at this;cases this
 have hget:∀i,i<hs.length->hs[i]?=some (backT hs nx i):=fun i hi=>by
  simp[backT,hi,List.getD]
 have hnew:∀i,hs.length<=i->backT hs nx i=nx+(i - hs.length):=fun i hi=>by
  simp only[backT];rw[if_neg (by omega)]
 have hinj:∀i j,i<bo.length->j<bo.length->backT hs nx (0+i)=backT hs nx (0+j)->i=j:=by
  intro i j hi hj e;simp only[Nat.zero_add]at e;rcases Nat.lt_or_ge i hs.length with h1|h1<;>rcases Nat.lt_or_ge j hs.length with h2|h2
  .exact nodup_spec hn (hget i h1) (e ▸ hget j h2)
  .have:=hdef _ (List.mem_of_getElem? (hget i h1));rw[e,hnew j h2]at this;omega
  .have:=hdef _ (List.mem_of_getElem? (hget j h2));rw[<-e,hnew i h1]at this;omega
  .rw[hnew i h1,hnew j h2]at e;omega
 obtain ⟨hu1,hu2⟩:=updL_out (H:=H) hinj;simp only[Nat.zero_add]at hu1 hu2;let ρ2:Nat->Option Pl:=fun j=>if nx<=j/\j<nx+64 then ρ' (j - nx+hs.length) else ρ j
 have hρold:∀j,¬(nx<=j/\j<nx+64)->ρ2 j=ρ j:=fun j h=>by simp only[ρ2];rw[if_neg h]
 have hρnew:∀i,hs.length<=i->i<hs.length+64->ρ2 (backT hs nx i)=ρ' i:=fun i h1 h2=>by
  simp only[ρ2];rw[hnew i h1,if_pos (by omega)];congr 1;omega
 have hplace:∀i m,ρ' i=some m->ρ2 (backT hs nx i)=some m:=by
  intro i m h;rcases Nat.lt_or_ge i hs.length with h1|h1
  .have hr:=hget i h1;have hmem:=List.mem_of_getElem? hr;rw[hρold _ (hdef _ hmem)];obtain ⟨m0,h0⟩:=place_of_live hm (hl _ hmem);have:=hsub i m0 (by simp[rho0,hr,h0]);rw[h]at this;cases this;exact h0
  .rcases Nat.lt_or_ge i (hs.length+64) with h2|h2
   .rw[hρnew i h1 h2];exact h
   .have:=hm'.defd i (by simp;omega);rw[this]at h;cases h
 have hplace':∀i,i<bo.length->∀m,ρ2 (backT hs nx i)=some m->ρ' i=some m:=by
  intro i hi m h;rcases Nat.lt_or_ge i hs.length with h1|h1
  .have hr:=hget i h1;rw[hρold _ (hdef _ (List.mem_of_getElem? hr))]at h;exact hsub i m (by simp[rho0,hr,h])
  .rw[hρnew i h1 (by omega)]at h;exact h
 have hcase:∀j,(∃i,i<bo.length/\j=backT hs nx i)\/((∀i,i<bo.length->j≠backT hs nx i)/\j∉hs):=by
  intro j;by_cases h:∃i,i<bo.length/\j=backT hs nx i
  .exact .inl h
  .refine .inr ⟨fun i hi e=>h ⟨i,hi,e⟩,fun hj=>?_⟩;obtain ⟨i,hi⟩:=List.getElem?_of_mem hj;have hlt:=(List.getElem?_eq_some_iff.1 hi).1;refine h ⟨i,by omega,?_⟩;have:=hget i hlt;rw[hi]at this;cases this;rfl
 have hρout:∀j,(∀i,i<bo.length->j≠backT hs nx i)->(nx<=j/\j<nx+64)->ρ2 j=none:=by
  intro j hj hr;simp only[ρ2];rw[if_pos hr];refine hm'.defd _ ?_;by_cases h:j - nx+hs.length<bo.length
  .refine absurd ?_ (hj _ h);rw[hnew _ (by omega)];omega
  .simp;omega
 have keep:Keep w (Ow own0 ρ H) w':=⟨hm'.keep.size,fun b hb hno=>hm'.keep.block b hb fun h=>hno (by obtain ⟨_,_,_,_,_,h⟩:=hd_ow (own0:=own0) (H:=H) hl h;exact h)⟩
 have sub:Sub ρ ρ2:=fun j m h=>by
  by_cases hr:nx<=j/\j<nx+64
  .have:=hm.defd j (hnx j hr.1 hr.2);rw[this]at h;cases h
  .rw[hρold j hr];exact h
 have how:∀b,b<w.heap.size->Ow own0 ρ2 (updL H (outUps (backT hs nx) 0 bo)) b->Ow own0 ρ H b:=by
  rintro b hb (h|⟨j,base,c,hj,hlv⟩)
  .exact .inl h
  .rcases hcase j with ⟨i,hi,rfl⟩|⟨hno,hnh⟩
   .have hp:=hplace' i hi _ hj;rcases (hm'.fresh i _ _ _ hp).1 with h|h
    .omega
    .obtain ⟨_,_,_,_,_,h⟩:=hd_ow (own0:=own0) (H:=H) hl h;exact h
   .rw[hu2 j hno]at hlv;by_cases hr:nx<=j/\j<nx+64
    .rw[hnx j hr.1 hr.2]at hlv;cases hlv
    .rw[hρold j hr]at hj;exact .inr ⟨j,base,c,hj,hlv⟩
 have how2:∀b,b<w'.heap.size->Ow own0 ρ2 (updL H (outUps (backT hs nx) 0 bo)) b->Ow (ownC own0 ρ H hs) ρ' (fun i=>bo[i]?) b:=by
  rintro b hb (h|⟨j,base,c,hj,hlv⟩)
  .refine .inl ⟨.inl h,fun hh=>?_⟩;obtain ⟨r,base,c,_,hp,_⟩:=hd_ow (own0:=own0) hl hh;exact (hm.fresh r _ _ _ hp).2.2 h
  .rcases hcase j with ⟨i,hi,rfl⟩|⟨hno,hnh⟩
   .have hp:=hplace' i hi _ hj;refine .inr ⟨i,base,c,hp,?_⟩;rw[hu1 i _ (List.getElem?_eq_getElem hi),live_ren]at hlv;show live (bo[i]?)=true;rw[List.getElem?_eq_getElem hi];exact hlv
   .rw[hu2 j hno]at hlv;by_cases hr:nx<=j/\j<nx+64
    .rw[hnx j hr.1 hr.2]at hlv;cases hlv
    .rw[hρold j hr]at hj;exact .inl ⟨.inr ⟨j,base,c,hj,hlv⟩,not_hd hm hl hj (Yu hlv) hnh⟩
 refine ⟨ρ2,⟨sub,keep,how,?_⟩,fun d u hd=>hd.renAll hplace fun b hb h=>how2 b hb h⟩
 exact {
  blks:=fun j b hj=>by
   rcases hcase j with ⟨i,hi,rfl⟩|⟨hno,hnh⟩
   .rw[hu1 i _ (List.getElem?_eq_getElem hi)]at hj;cases hj;exact (hm'.blks i _ (List.getElem?_eq_getElem hi)).ren (hplace i) (fun r _ m=>hplace r m) how2
   .rw[hu2 j hno]at hj;refine (hm.blks j b hj).mono keep how sub fun b' base c hp hso=>?_;exact hm'.keep.block b' (hm.fresh j _ _ _ hp).2.1 (not_hd hm hl hp (by rw[hj];exact hso) hnh)
  defd:=fun j hj=>by
   rcases hcase j with ⟨i,hi,rfl⟩|⟨hno,hnh⟩
   .rw[hu1 i _ (List.getElem?_eq_getElem hi)]at hj;cases hj
   .rw[hu2 j hno]at hj;by_cases hr:nx<=j/\j<nx+64
    .exact hρout j hno hr
    .rw[hρold j hr];exact hm.defd j hj
  inj:=fun j j' b c k b' c' k' h1 h2 h3 h4 hne=>by
   have hold:∀ {j b c k},(∀i,i<bo.length->j≠backT hs nx i)->ρ2 j=some (.blk b c k)->ρ j=some (.blk b c k):=fun {j b c k} hno h=>by
    by_cases hr:nx<=j/\j<nx+64
    .rw[hρout j hno hr]at h;cases h
    .rwa [hρold j hr]at h
   have mixed:∀ {j i b c k b' c' k'},(∀i,i<bo.length->j≠backT hs nx i)->j∉hs->solid (H j)=true->ρ j=some (.blk b c k)->i<bo.length->ρ' i=some (.blk b' c' k')->b≠b':=by
    intro j i b c k b' c' k' _ hnh hso hp _ hp';rcases (hm'.fresh i _ _ _ hp').1 with h|h
    .have:=(hm.fresh j _ _ _ hp).2.1;omega
    .intro e;subst e;exact not_hd hm hl hp hso hnh h
   rcases hcase j with ⟨i,hi,rfl⟩|⟨hno,hnh⟩<;>rcases hcase j' with ⟨i',hi',rfl⟩|⟨hno',hnh'⟩
   .rw[hu1 i _ (List.getElem?_eq_getElem hi),solid_ren]at h1;rw[hu1 i' _ (List.getElem?_eq_getElem hi'),solid_ren]at h2;exact hm'.inj i i' _ _ _ _ _ _ (by show solid (bo[i]?)=true;rw[List.getElem?_eq_getElem hi];exact h1) (by show solid (bo[i']?)=true;rw[List.getElem?_eq_getElem hi'];exact h2) (hplace' i hi _ h3) (hplace' i' hi' _ h4) fun e=>hne (e ▸ rfl)
   .rw[hu2 j' hno']at h2;exact fun e=>mixed hno' hnh' h2 (hold hno' h4) hi (hplace' i hi _ h3) e.symm
   .rw[hu2 j hno]at h1;exact mixed hno hnh h1 (hold hno h3) hi' (hplace' i' hi' _ h4)
   .rw[hu2 j hno]at h1;rw[hu2 j' hno']at h2;exact hm.inj j j' _ _ _ _ _ _ h1 h2 (hold hno h3) (hold hno' h4) hne
  fresh:=fun j b c k hj=>by
   rcases hcase j with ⟨i,hi,rfl⟩|⟨hno,hnh⟩
   .have hp:=hplace' i hi _ hj;obtain ⟨h1,h2,h3⟩:=hm'.fresh i _ _ _ hp;rcases h1 with h|h
    .exact ⟨.inl (Nat.le_trans hm.keep.size h),h2,fun ho=>by have:=hm.own0 _ ho;have:=hm.keep.size;omega⟩
    .obtain ⟨r,base,c',_,hp',_⟩:=hd_ow (own0:=own0) hl h;obtain ⟨g1,_,g3⟩:=hm.fresh r _ _ _ hp';exact ⟨g1,h2,g3⟩
   .by_cases hr:nx<=j/\j<nx+64
    .rw[hρout j hno hr]at hj;cases hj
    .rw[hρold j hr]at hj;obtain ⟨g1,g2,g3⟩:=hm.fresh j _ _ _ hj;exact ⟨g1,Nat.lt_of_lt_of_le g2 hm'.keep.size,g3⟩
  keep:=⟨hm'.keep.os.trans hm.keep.os,hm'.keep.tape.trans hm.keep.tape,hm'.keep.output.trans hm.keep.output,Nat.le_trans hm.keep.size hm'.keep.size,fun b hb hno=>by
   rw[hm'.keep.block b (Nat.lt_of_lt_of_le hb hm.keep.size) fun h=>?_,hm.keep.block b hb hno];obtain ⟨r,base,c,_,hp,_⟩:=hd_ow (own0:=own0) hl h;rcases (hm.fresh r _ _ _ hp).1 with h|h
   .omega
   .exact hno h⟩
  own0:=hm.own0
  glob:=hm.glob }
theorem frzD_sound (hm:Mem own0 mt w0 ρ H w) {d d':D} {u:Value} {ups:Ups} {p:Prop} (h:frzD H d=some (d',ups,p)) (hp:p) (hd:RepD w (Ow own0 ρ H) ρ d u) :
 Step own0 mt w0 ρ H w ρ (updL H ups) w/\∀ ρ',RepD w (Ow own0 ρ (updL H ups)) ρ' d' u:=by
 unfold frzD at h
 split at h
 .rename_i c
  split at h
  .rename_i v ups' p' hc;cases h;have hd':All2 (RepC w (Ow own0 ρ H) ρ) [c] [u]:=⟨hd,trivial⟩
   obtain ⟨s1,ha⟩:=Yp hm hc hp hd';exact ⟨s1,fun _=>ha.1⟩
  .cases h
 .rename_i cs
  split at h
  .rename_i vs ups' p' hc;cases h;obtain ⟨us,rfl,hd⟩:=hd;obtain ⟨s1,ha⟩:=Yp hm hc hp hd;exact ⟨s1,fun _=>⟨us,rfl,All2.map_left ha⟩⟩
  .cases h
 .cases h
theorem passDs_sound {own:Bool}:∀ {ds args:List D} {us:List Value} {H:Nat->Option Blk} {ups:Ups} {p:Prop},Mem own0 mt w0 ρ H w->passDs own hs H ds=some (args,ups,p)->p->All2 (RepD w (Ow own0 ρ H) ρ) ds us ->
 (∀d,d∈ds->∀b off,d=.p b off->b∈hs)->(own=true->∀d,d∈ds->∀r,r∈handD own (fun _=>none) d->r∈hs) ->
 Step own0 mt w0 ρ H w ρ (updL H ups) w/\All2 (RepD w (Ow own0 ρ (updL H ups)) (rho0 ρ hs)) args us
 | [],_,[],_,_,_,hm,h,_,_,_,_=>by cases h;exact ⟨Step.refl hm,trivial⟩
 | d::ds,args,u::us,H,ups,p,hm,h,hp,⟨h0,h1⟩,hh,hh2=>by
  simp only[passDs]at h
  split at h
  .rename_i d' u1 p1 hd
   split at h
   .rename_i ds' u2 p2 hds;cases h
    have hdd:Step own0 mt w0 ρ H w ρ (updL H u1) w/\RepD w (Ow own0 ρ (updL H u1)) (rho0 ρ hs) d' u:=by
     have hpos:∀r,r∈hs->∀m,ρ r=some m->rho0 ρ hs (pos hs r)=some m:=fun r hr m h=>by
      simp[rho0,(pos_spec hr).2,h]
     unfold passD at hd
     split at hd
     .rename_i b off;cases hd;obtain ⟨bn,z,c,hb,hu⟩:=h0;exact ⟨Step.refl hm,bn,z,c,hpos b (hh _ (by simp) b off rfl) _ hb,hu⟩
     .rename_i e
      split at hd
      .rename_i ho;cases hd;refine ⟨Step.refl hm,?_⟩;have hmem:=hh2 ho _ (List.mem_cons_self)
       cases e with
       | c c=>exact RepC.ren (show RepC w _ ρ c u from h0) (fun r hr=>hpos r (hmem r (by simpa[handD,ho] using hr))) fun _ _ h=>h
       | a cs =>
        obtain ⟨us,hu,ha⟩:=h0;exact ⟨us,hu,all2_ren ha (fun r hr=>hpos r (hmem r (by simpa[handD,ho] using hr))) fun _ _ h=>h⟩
      .obtain ⟨s1,h1⟩:=frzD_sound hm hd hp.1 h0;exact ⟨s1,h1 _⟩
     .cases hd;exact ⟨Step.refl hm,h0⟩
     .rename_i r k off n
      split at hd
      .rename_i ho;cases hd;have hmem:=hh2 ho _ (List.mem_cons_self);obtain ⟨m,hm',h⟩:=h0;exact ⟨Step.refl hm,m,hpos r (hmem r (by simp[handD,ho])) m hm',h⟩
      .cases hd
     .cases hd
    obtain ⟨s1,hd1⟩:=hdd;obtain ⟨s2,ha⟩:=passDs_sound s1.mem hds hp.2 (h1.mono fun _ _ h=>s1.rep h) (fun d hd=>hh d (by simp[hd])) (fun ho d hd=>hh2 ho d (by simp[hd]));rw[Z7];refine ⟨s1.trans s2,?_,ha⟩;exact hd1.mono s2.keep s2.ow (.refl _)
   .cases h
  .cases h
 | [],_,_::_,_,_,_,_,_,_,h,_,_=>h.elim
 | _::_,_,[],_,_,_,_,_,_,h,_,_=>h.elim
theorem plain_rep {c:C} {u:Value} (hc:plainC c=true) (h:RepC w ow ρ c u):RepC w' ow' ρ' c u:=by
 cases c with
 | o r n=>cases hc
 | v a =>
  cases a with
  | x v=>exact RepV.x _ (by cases h;assumption) |> fun h'=>by cases h;exact h'
  | s k rows=>cases hc
  | f fn caps=>cases hc
theorem plain_repE {e:E} {u:Value} (hc:plainE e=true) (h:RepE w ow ρ e u):RepE w' ow' ρ' e u:=by
 cases e with
 | c c=>exact plain_rep hc h
 | a cs =>
  obtain ⟨us,hu,h⟩:=h;refine ⟨us,hu,?_⟩;have hall:∀c,c∈cs->plainC c=true:=by simpa[plainE] using hc
  clear hc hu
  induction cs generalizing us with
  | nil=>cases us with
   | nil=>trivial
   | cons=>exact h.elim
  | cons c cs ih=>cases us with
   | nil=>exact h.elim
   | cons u us=>exact ⟨plain_rep (hall c (by simp)) h.1,ih _ h.2 fun c hc=>hall c (by simp[hc])⟩
theorem plain_repD {d:D} {u:Value} (hc:plainD d=true) (h:RepD w ow ρ d u):RepD w' ow' ρ' d u:=by
 cases d with
 | e e=>exact plain_repE hc h
 | t es =>
  obtain ⟨us,hu,h⟩:=h;refine ⟨us,hu,?_⟩;have hall:∀c,c∈es->plainE c=true:=by simpa[plainD] using hc
  clear hc hu
  induction es generalizing us with
  | nil=>cases us with
   | nil=>trivial
   | cons=>exact h.elim
  | cons c cs ih=>cases us with
   | nil=>exact h.elim
   | cons u us=>exact ⟨plain_repE (hall c (by simp)) h.1,ih _ h.2 fun c hc=>hall c (by simp[hc])⟩
 | _=>cases hc
theorem call_sound (hm:Mem own0 mt w0 ρ H w) {nx:Nat} (hnx:∀j,nx<=j->j<nx+64->H j=none) {own:Bool} {f:FuncId} {ds:List D} {us:List Value} (hq:q=true) (hd:All2 (RepD w (Ow own0 ρ H) ρ) ds us)
 (hg:(callE own H nx q f ds).gives P (d',ups)) (hfr:∀args u1 p,passDs own (ds.flatMap (handD own H)) H ds=some (args,u1,p)->∀j,nx<=j->j<nx+64->updL H u1 j=none) :
 Goes P f us.toArray w fun e w'=>∃v ρ',e=.returned v/\Step own0 mt w0 ρ H w ρ' (updL H ups) w'/\RepD w' (Ow own0 ρ' (updL H ups)) ρ' d' v:=by
 simp only[callE]at hg
 split at hg
 .rename_i args u1 p hpass;obtain ⟨⟨hp,hn,hall⟩,hg⟩:=hg;generalize hhs:ds.flatMap (handD own H)=hs at *;have hmem:∀d,d∈ds->∀r,r∈handD own H d->r∈hs:=fun d hd r hr=>by rw[<-hhs];exact List.mem_flatMap.2 ⟨d,hd,hr⟩
  obtain ⟨s1,ha⟩:=passDs_sound hm hpass hp hd (fun d hd b off e=>hmem d hd b (by rw[e];simp[handD])) (fun ho d hd r hr=>hmem d hd r (by
   cases d with
   | e e=>cases e<;>simpa[handD] using hr
   | p b off=>simp[handD]at hr ⊢;exact .inl hr
   | u r' k off n=>simpa[handD] using hr
   | _=>simp[handD]at hr))
  have hl:∀r,r∈hs->live (updL H u1 r)=true:=fun r hr=>by
   have:=List.all_eq_true.1 hall r hr;simp only[Bool.and_eq_true]at this;exact this.1
  have hc:∀r,r∈hs->∀b,updL H u1 r=some b->∀x,x∈idsB b->x∈hs:=fun r hr b hb x hx=>by
   have:=List.all_eq_true.1 hall r hr;simp only[Bool.and_eq_true,hb,Option.map_some,Option.getD_some]at this;have:=List.all_eq_true.1 this.2 x hx;simpa using this
  obtain ⟨hin,how⟩:=hand_in s1.mem hn hl hc;obtain ⟨val,bo,hcall,hg⟩:=hg;refine ((hcall hq).goes _ w _ us hin (ha.mono fun _ _ h=>h.mono (Keep.refl _ _) (fun b _ h=>how b h) (.refl _))).mono ?_;rintro e w' ⟨u,ρ',rfl,hsub,hval,hmem'⟩;dsimp only at hg
  split at hg
  .rename_i hv;simp only[Bool.and_eq_true]at hv;have hg':(d',ups)=(_,_):=hg;cases hg';have hs0:hs=[]:=by simpa using hv.1.1
   have hk:KeepM (fun _=>False) w w':=⟨hmem'.keep.os,hmem'.keep.tape,hmem'.keep.output,hmem'.keep.size,fun b hb _=>hmem'.keep.block b hb fun ⟨i,base,c,hi⟩=>by subst hs0;simp[rho0]at hi⟩
   exact ⟨u,ρ,rfl,Step.grow hm hk,plain_repD hv.2 hval⟩
  .obtain ⟨⟨hb1,hb2⟩,hg⟩:=hg;have hg':(d',ups)=(_,_):=hg;cases hg';obtain ⟨ρ'',hs2,hr⟩:=hand_out s1.mem hn hl (nx:=nx) (hfr args u1 p hpass) hb1 hb2 hsub hmem';refine ⟨u,ρ'',rfl,?_,?_⟩
   .rw[Z7];exact s1.trans hs2
   .rw[Z7];exact hr val u hval
 .exact (hg.1 hq).elim
end hand
end Eng
end Go.Proofs.YtgenjpingdkmgaaGreatDoor
namespace Go.Proofs.YtgenjpingdkmgaaGreatDoor
namespace Eng
section
def viewE (Γ:Nat->Option Ty) (ty:Ty) (q:Bool) (H:Nat->Option Blk) (nx:Nat) (x:D) (lo hi mx:Option D):Tr (D×Ups) :=
 match x with
 | .e (.c (.o r n))=>match ty.desc with
  | .slice e=>match Γ e with
   | some te=>match mx with
    | some (.x (.int _ m))=>match lo,hi with
     | some (.x (.int _ l)),some (.x (.int _ h))=>.ask (q=true->0<=l/\l<=h/\h<=m/\m<=n) (.ret (.top,[]))
     | _,_=>.fail
    | some _=>.fail
    | none=>match H r with
     | some (.row k rows)=>match boundE 0 lo,boundE n hi with
      | some l,some h=>.ask (q=true->k=te.size/\0<=l/\l<=h/\h<=rows.length)
       (.ret (match lo with
        | none=>.e (.c (.o r h.toNat))
        | some _=>.u r te.size l.toNat (h.toNat - l.toNat),[]))
      | _,_=>.fail
     | _=>.fail
   | none=>.fail
  | _=>.fail
 | _=>sliceE Γ ty q H nx x lo hi mx
def putRows (rows:List (List V)) (off:Nat) (new:List (List V)):List (List V):=splice rows off new
def appendUE (Γ:Nat->Option Ty) (ts:Array TypeId) (H:Nat->Option Blk) (r n r' k off m:Nat):Tr (D×Ups) :=
 match ts[0]?,ts[1]? with
 | some t0,some t1=>match Γ t0,Γ t1 with
  | some ty0,some ty1=>match ty0.desc,ty1.desc with
   | .slice e,.slice _=>match Γ e with
    | some te=>match H r with
     | some (.row k' rows)=>.ask (r'=r/\k=te.size/\k'=te.size/\off+m<=rows.length/\n+m<=rows.length)
      (.ret (.e (.c (.o r (n+m))),[(r,.row te.size (putRows rows n ((rows.drop off).take m)))]))
     | _=>.fail
    | none=>.fail
   | _,_=>.fail
  | _,_=>.fail
 | _,_=>.fail
def clearE (Γ:Nat->Option Ty) (ts:Array TypeId) (H:Nat->Option Blk) (r k off m:Nat):Tr (D×Ups) :=
 match ts[0]? with
 | some t0=>match Γ t0 with
  | some ty0=>match ty0.desc with
   | .slice e=>match Γ e with
    | some te=>match H r with
     | some (.row k' rows)=>.ask (k=te.size/\k'=te.size/\off+m<=rows.length)
      (.ret (.top,[(r,.row te.size (putRows rows off (List.replicate m (zeroV te))))]))
     | _=>.fail
    | none=>.fail
   | _=>.fail
  | none=>.fail
 | none=>.fail
variable {P:Program} {Γ:Nat->Option Ty} {own0 mt:Nat->Prop} {w0 w:World} {ow:Nat->Prop} {ρ:Nat->Option Pl} {H:Nat->Option Blk} {q:Bool}
 {d':D} {ups:Ups}
theorem flatten_take {α:Type} {k:Nat}:∀ {rows:List (List α)} (n:Nat),(∀r,r∈rows->r.length=k)->(rows.take n).flatten=rows.flatten.take (n*k)
 | [],n,_=>by simp
 | r::rows,0,_=>by simp
 | r::rows,n+1,h=>by
  have hr:r.length=k:=h r (by simp);simp only[List.take_succ_cons,List.flatten_cons];rw[flatten_take n fun x hx=>h x (by simp[hx]),List.take_append,hr,Nat.add_mul,Nat.one_mul,Nat.add_sub_cancel,List.take_of_length_le (l:=r) (by omega)]
theorem flatten_drop {α:Type} {k:Nat}:∀ {rows:List (List α)} (n:Nat),(∀r,r∈rows->r.length=k)->(rows.drop n).flatten=rows.flatten.drop (n*k)
 | [],n,_=>by simp
 | r::rows,0,_=>by simp
 | r::rows,n+1,h=>by
  have hr:r.length=k:=h r (by simp);simp only[List.drop_succ_cons,List.flatten_cons];rw[flatten_drop n fun x hx=>h x (by simp[hx]),List.drop_append,hr,Nat.add_mul,Nat.one_mul,Nat.add_sub_cancel,List.drop_of_length_le (l:=r) (by omega),List.nil_append]
theorem flatten_splice {α:Type} {k:Nat} {rows new:List (List α)} {off:Nat} (hr:∀r,r∈rows->r.length=k) (hn:∀r,r∈new->r.length=k) :
 (splice rows off new).flatten=splice rows.flatten (off*k) new.flatten:=by
 unfold splice;rw[List.flatten_append,List.flatten_append,flatten_take _ hr,flatten_drop _ hr,Yk hn,Nat.add_mul]
theorem splice_get {α:Type} {as bs xs:List α} {base off:Nat} (h:∀(j:Nat) v,as[j]?=some v->bs[base+j]?=some v) (ho:off<=as.length) (hl:base+off+xs.length<=bs.length) {j:Nat} {v:α}
 (hj:(splice as off xs)[j]?=some v):(splice bs (base+off) xs)[base+j]?=some v:=by
 unfold splice at hj ⊢;have l1:(as.take off).length=off:=by simp;omega
 have l2:(bs.take (base+off)).length=base+off:=by simp;omega
 by_cases c1:j<off
 .rw[List.append_assoc,List.getElem?_append_left (by omega),List.getElem?_take,if_pos c1]at hj;rw[List.append_assoc,List.getElem?_append_left (by omega),List.getElem?_take,if_pos (by omega)];exact h j v hj
 .by_cases c2:j<off+xs.length
  .rw[List.append_assoc,List.getElem?_append_right (by omega),l1,List.getElem?_append_left (by omega)]at hj;rw[List.append_assoc,List.getElem?_append_right (by omega),l2,List.getElem?_append_left (by omega),show base+j - (base+off)=j - off by omega];exact hj
  .rw[List.append_assoc,List.getElem?_append_right (by omega),l1,List.getElem?_append_right (by omega),List.getElem?_drop]at hj;rw[List.append_assoc,List.getElem?_append_right (by omega),l2,List.getElem?_append_right (by omega),List.getElem?_drop];have:=h _ v hj;rw[<-this];congr 1;omega
theorem all2_one {α:Type} {w:World} {ow:Nat->Prop}:∀ {vs:List V} {us:List Value},All2 (RepV w ow) vs us->∀u,u∈us->u.oneCell=true
 | [],[],_,_,h=>by simp at h
 | _::_,_::_,⟨h0,h1⟩,u,h=>by
  rcases List.mem_cons.1 h with rfl|h
  .exact h0.oneCell
  .exact all2_one (α:=α) h1 u h
 | [],_::_,h,_,_=>h.elim
 | _::_,[],h,_,_=>h.elim
theorem row_write (hm:Mem own0 mt w0 ρ H w) {r k:Nat} {rows rs:List (List V)} {b base cap off:Nat} (hr:H r=some (.row k rows)) (hp:ρ r=some (.blk b base cap)) {news:List Value}
 (hxn:All2 (RepV w (Ow own0 ρ H)) rs.flatten news) (hkr:∀r,r∈rs->r.length=k) (ho:off<=rows.length) (hroom:off+rs.length<=cap) :
 ∃w',(storeCells ⟨b,base+off*k,none⟩ news).run P w=.ok () w'/\Step own0 mt w0 ρ H w ρ (upd H r (some (.row k (splice rows off rs)))) w':=by
 obtain ⟨hrl,m,hm',h⟩:=hm.blks r _ hr;rw[hp]at hm';cases hm';obtain ⟨hcap,vs,T',fr,hh,hf,h2,h3⟩:=h;have hnl:news.length=rs.length*k:=by rw[<-hxn.length,Yk hkr]
 have hmul:(off+rs.length)*k<=cap*k:=Nat.mul_le_mul_right _ hroom;rw[Nat.add_mul]at hmul;have hst:=Yz (P:=P) (b:=b) (o:=base+off*k) news 0 vs w hh hf.1 (by omega) (all2_one (α:=Unit) hxn);simp only[Nat.add_zero]at hst;refine ⟨_,hst,?_⟩;have hlive:live (H r)=true:=by rw[hr];rfl
 have hkk:∀r',r'∈splice rows off rs->r'.length=k:=fun r' hr'=>by
  unfold splice at hr';rcases List.mem_append.1 hr' with h|h
  .rcases List.mem_append.1 h with h|h
   .exact hrl r' (List.mem_of_mem_take h)
   .exact hkr r' h
  .exact hrl r' (List.mem_of_mem_drop h)
 obtain ⟨olds,ho1,ho2⟩:=flat_of_get (rows:=rows) (f:=fun j=>vs[base+j]?) hrl (R:=RepV w (Ow own0 ρ H)) fun i r' j v hi hj=>by
  obtain ⟨x,hx1,hx2⟩:=h3 i r' j v hi hj;exact ⟨x,by rw[<-Nat.add_assoc];exact hx1,hx2⟩
 have hol:olds.length=rows.length*k:=by rw[<-ho1.length,Yk hrl]
 refine Step.write hm hp hlive rfl ⟨hkk,_,hp,by simp[splice];omega,_,T',fr,Yh (Array.getElem?_eq_some_iff.1 hh).1,rFr_splice hf (by omega),?_,?_⟩
 .simp;rw[Yj (by simp;omega)];simpa using h2
 .have hfl:All2 (RepV w (Ow own0 ρ H)) (splice rows off rs).flatten (splice olds (off*k) news):=by rw[flatten_splice hrl hkr];exact all2_splice ho1 hxn
  refine rows_of_flat hkk (hfl.mono fun _ _ h=>h.mono (Keep.setBlk (.inr ⟨r,_,_,hp,hlive⟩) _) fun _ _ h=>h) fun j v hj=>?_;simp only[List.getElem?_toArray];have hmul2:off*k<=rows.length*k:=Nat.mul_le_mul_right _ ho;exact splice_get (bs:=vs.toList) (fun j v hj=>by simpa using ho2 j v hj) (by omega) (by simp;omega) hj
theorem source_view (hm:Mem own0 mt w0 ρ H w) {r k:Nat} {rows:List (List V)} {off m:Nat} {u:Value} (hr:H r=some (.row k rows)) (hu:RepD w (Ow own0 ρ H) ρ (.u r k off m) u) (hl:off+m<=rows.length) :
 Source P w (Ow own0 ρ H) k ((rows.drop off).take m) u:=by
 obtain ⟨hrl,pl,hpl,h⟩:=hm.blks r _ hr;obtain ⟨pl',hpl',hu⟩:=hu;rw[hpl]at hpl';cases hpl';have hlen:((rows.drop off).take m).length=m:=by simp;omega
 have hkk:∀r',r'∈(rows.drop off).take m->r'.length=k:=fun r' h=>hrl r' (List.mem_of_mem_drop (List.mem_of_mem_take h))
 cases pl with
 | nil =>
  obtain ⟨rfl,a,rfl⟩:=hu;have:=Yq (P:=P) (w:=w) (ow:=Ow own0 ρ H) (rs:=[]) (a:=a) (c:=0) (size:=k) (by simp) (by simp) (by simp)
  simpa using this
 | blk b base cap =>
  obtain ⟨hle,a,c,rfl,hc,ha⟩:=hu;obtain ⟨hcap,vs,T',fr,hh,hf,h2,h3⟩:=h
  have:=Yq (P:=P) (w:=w) (ow:=Ow own0 ρ H) (rs:=(rows.drop off).take m) (a:=a) (c:=c) (size:=k) hkk (fun he=>by
   rcases Nat.eq_zero_or_pos m with h0|h0
   .subst h0;simp
   .rw[ha h0]at he;cases he) (fun ad he i r' j v hi hj=>by
   have hi':=hi;rw[List.getElem?_take]at hi'
   split at hi'
   .rename_i him;rw[List.getElem?_drop]at hi';rw[ha (by omega)]at he;cases he;obtain ⟨x,hx1,hx2⟩:=h3 _ r' j v hi' hj;refine ⟨x,?_,hx2⟩;rw[Zw,Yi hh,<-hx1];congr 1;rw[Nat.add_mul];omega
   .cases hi')
  rw[hlen]at this;exact this
theorem view_sound (hΓ:TysOk P Γ) (hm:Mem own0 mt w0 ρ H w) {nx:Nat} (hnx:H nx=none) {t:TypeId} {ty:Ty} (ht:TyOk P t ty) {x:D} {u:Value} {lo hi mx:Option D} {ul uh um:Option Value} (hq:q=true)
 (hx:RepD w (Ow own0 ρ H) ρ x u) (hl:OptRep w (Ow own0 ρ H) ρ lo ul) (hh:OptRep w (Ow own0 ρ H) ρ hi uh) (hmx:OptRep w (Ow own0 ρ H) ρ mx um)
 (hg:(viewE Γ ty q H nx x lo hi mx).gives P (d',ups)):MRun P own0 mt w0 ρ H w (Instr.slice t u ul uh um) ups fun w' ow' ρ' v=>RepD w' ow' ρ' d' v:=by
 unfold viewE at hg;have hu:=ht.under
 split at hg
 .rename_i r n
  split at hg
  .rename_i e hdesc;rw[hdesc]at hu
   split at hg
   .rename_i te hte;have hts:=Zr (P:=P) (hΓ _ _ hte)
    split at hg
    .rename_i km m
     split at hg
     .rename_i kl l kh h
      cases um with
      | none=>exact hmx.elim
      | some um =>
      cases ul with
      | none=>exact hl.elim
      | some ul =>
      cases uh with
      | none=>exact hh.elim
      | some uh =>
      obtain ⟨h0,hg⟩:=hg;obtain ⟨h1,h2,h3,h4⟩:=h0 hq;have hg':(d',ups)=(_,_):=hg;cases hg';obtain ⟨rfl,_⟩:=rep_x hmx;obtain ⟨rfl,_⟩:=rep_x hl;obtain ⟨rfl,_⟩:=rep_x hh;obtain ⟨pl,hpl,hx⟩:=hx
      have run:∀(a:Option Addr) (c:Nat),n<=c->∃v,(Instr.slice t (.slice a n c) (some (.int kl l)) (some (.int kh h)) (some (.int km m))).run P w=.ok v w:=fun a c hc=>by
       have b1:=Yo (P:=P) (w:=w) (k:=km) (i:=m) (y:=c) (code:=.slice3Acap) (by omega) (by omega);have b2:=Yo (P:=P) (w:=w) (k:=kh) (i:=h) (y:=m.toNat) (code:=.slice3B) (by omega) (by omega);have b3:=Yo (P:=P) (w:=w) (k:=kl) (i:=l) (y:=h.toNat) (code:=.slice3C) (by omega) (by omega);refine ⟨.slice (if m.toNat=l.toNat then a else a.map (·.add (l.toNat*te.size))) (h.toNat - l.toNat) (m.toNat - l.toNat),?_⟩;simp[Instr.slice,Instr.sliceBounds,run_underlying hu,b1,b2,b3,hts]
      cases pl with
      | nil =>
       obtain ⟨rfl,a,rfl⟩:=hx;obtain ⟨v,hv⟩:=run a 0 (Nat.le_refl _)
       exact MRun.pure hm hv trivial
      | blk b base cap =>
       obtain ⟨rfl,hc⟩:=hx;obtain ⟨v,hv⟩:=run _ cap hc;exact MRun.pure hm hv trivial
     .exact hg.elim
    .exact hg.elim
    .cases um with
     | some _=>exact hmx.elim
     | none =>
     split at hg
     .rename_i k rows hr
      split at hg
      .rename_i l h el eh;obtain ⟨h0,hg⟩:=hg;obtain ⟨rfl,h1,h2,h3⟩:=h0 hq;have hg':(d',ups)=(_,_):=hg;obtain ⟨e1,e2⟩:=Prod.mk.inj hg';subst e2;obtain ⟨hrl,pl,hpl,hrow⟩:=hm.blks r _ hr;obtain ⟨pl',hpl',hx⟩:=hx;rw[hpl]at hpl';cases hpl'
       cases pl with
       | nil =>
        obtain ⟨rfl,a,rfl⟩:=hx;subst hrow;have hh0:h=0:=by simp at h3;omega
        have hl0:l=0:=by omega
        have hb:=Yn (P:=P) (w:=w) (isSlice:=true) (len:=0) (cap:=0) hl hh el eh (by omega) (by omega) (by simpa using h3);refine MRun.pure hm (v:=.slice a 0 0) ?_ ?_
        .simp[Instr.slice,run_underlying hu,hb,hts,hh0,hl0]
        .rw[e1]
         cases lo with
         | none=>exact ⟨.nil,hpl,by omega,a,rfl⟩
         | some _=>exact ⟨.nil,hpl,by omega,a,rfl⟩
       | blk b base cap =>
        obtain ⟨rfl,hc⟩:=hx;obtain ⟨hcap,vs,T',fr,hb',hf,h4,h5⟩:=hrow;have hb:=Yn (P:=P) (w:=w) (isSlice:=true) (len:=n) (cap:=cap) hl hh el eh (by omega) (by omega) (by omega);refine MRun.pure hm (v:=.slice (if cap=l.toNat then some ⟨b,base,none⟩ else some ⟨b,base+l.toNat*te.size,none⟩) (h.toNat - l.toNat) (cap - l.toNat)) ?_ ?_
        .simp[Instr.slice,run_underlying hu,hb,hts,Zw]
        .rw[e1]
         cases lo with
         | none =>
          simp only[boundE,Option.some.injEq]at el;subst el;refine ⟨.blk b base cap,hpl,?_,by omega⟩
          simp
         | some _ =>
          refine ⟨.blk b base cap,hpl,by omega,_,_,rfl,by omega,fun h0=>?_⟩;rw[if_neg (by omega)]
      .exact hg.elim
     .exact hg.elim
   .exact hg.elim
  .exact hg.elim
 .exact slice_sound hΓ hm hnx ht hq hx hl hh hmx hg
theorem appendU_sound (hΓ:TysOk P Γ) (hm:Mem own0 mt w0 ρ H w) {ts:Array TypeId} {r n r' k off m:Nat} {us ux:Value} (hs:RepD w (Ow own0 ρ H) ρ (.e (.c (.o r n))) us) (hx:RepD w (Ow own0 ρ H) ρ (.u r' k off m) ux) (T:TypeId)
 (hg:(appendUE Γ ts H r n r' k off m).gives P (d',ups)):MRun P own0 mt w0 ρ H w (Builtin.append_ ts T #[us,ux]) ups fun w' ow' ρ' v=>RepD w' ow' ρ' d' v:=by
 unfold appendUE at hg
 split at hg
 .rename_i t0 t1 h0 h1
  split at hg
  .rename_i ty0 ty1 hy0 hy1;have ht0:=(hΓ _ _ hy0).under;have ht1:=(hΓ _ _ hy1).under
   split at hg
   .rename_i e e1 hd0 hd1;rw[hd0]at ht0;rw[hd1]at ht1
    split at hg
    .rename_i te hte;have hte:=hΓ _ _ hte
     split at hg
     .rename_i k' rows hr;obtain ⟨⟨rfl,rfl,rfl,h2,h3⟩,hg⟩:=hg;have hg':(d',ups)=(_,_):=hg;cases hg';have hsrc:=source_view (P:=P) hm hr hx h2;have hlen:((rows.drop off).take m).length=m:=by simp;omega
      have hrow:=hm.blks r' _ hr;obtain ⟨hrl,pl,hpl,hrow⟩:=hrow;have hkk:∀x,x∈(rows.drop off).take m->x.length=te.size:=fun x h=>hrl x (List.mem_of_mem_drop (List.mem_of_mem_take h));obtain ⟨pl',hpl',hs⟩:=hs;rw[hpl]at hpl';cases hpl'
      cases pl with
      | nil =>
       obtain ⟨rfl,a,rfl⟩:=hs;subst hrow;have hm0:m=0:=by simp at h3;exact h3
       subst hm0;refine ⟨.slice a 0 0,w,ρ,append_empty (te:=te) h0 h1 ht0 ht1 (fun _ h=>by cases h) hte (by simpa using hsrc),?_,.nil,hpl,rfl,a,rfl⟩
       have:upd H r' (some (.row te.size (putRows [] 0 (List.take 0 (List.drop off ([]:List (List V)))))))=H:=by
        funext j;unfold upd;split
        .rename_i h;subst h;simp[putRows,splice,hr]
        .rfl
       rw[show updL H [(r',Blk.row te.size (putRows [] 0 (List.take 0 (List.drop off ([]:List (List V))))))]=H from this]
       exact Step.refl hm
      | blk b base cap =>
       obtain ⟨rfl,hc⟩:=hs;obtain ⟨hcap,vs,T',fr,hb',hf,h4,h5⟩:=hrow;obtain ⟨hxl,news,hxn,hxf⟩:=hsrc;rw[hlen]at hxl hxf;have hrun:=run_append_room (P:=P) ts T t0 t1 e (.slice e1) te h0 h1 ht0 ht1 (fun _ h=>by cases h) hte w (some ⟨b,base,none⟩) n cap ux m news (hxl w) (hxf w fun _=>rfl) (by omega);obtain ⟨w',hst,hstep⟩:=row_write (P:=P) hm hr hpl (off:=n) hxn hkk (by omega) (by rw[hlen];omega);simp only[Zw,hst,Result.andThen_ok]at hrun;exact ⟨_,w',ρ,hrun,hstep,.blk b base cap,hpl,rfl,by omega⟩
     .exact hg.elim
    .exact hg.elim
   .exact hg.elim
  .exact hg.elim
 .exact hg.elim
theorem Yv {te:Ty} {e:TypeId} (hte:TyOk P e te):∀(m:Nat),(Builtin.zeroCells te.zero.cells m).toList=(List.replicate m te.zero.cells.toList).flatten:=by
 intro m;have hs:=hte.zsize;refine List.ext_getElem? fun j=>?_;have hk:∀r,r∈List.replicate m te.zero.cells.toList->r.length=te.size:=fun r h=>by rw[(List.mem_replicate.1 h).2];simpa using hs
 rcases Nat.eq_zero_or_pos te.size with h0|h0
 .rw[h0]at hs;have he:te.zero.cells.toList=[]:=by apply List.eq_nil_of_length_eq_zero;simpa using hs
  simp[Builtin.zeroCells,hs,he]
 .have hd:=Nat.div_add_mod j te.size;have hj:j=(j / te.size)*te.size+j % te.size:=by rw[Nat.mul_comm];omega
  have hlt:=Nat.mod_lt j h0;rw[hj,flatten_get hk hlt,<-hj,List.getElem?_replicate];simp only[Builtin.zeroCells,Array.toList_map,Array.toList_range,List.getElem?_map,hs];by_cases c:j / te.size<m
  .have c':j<m*te.size:=(Nat.div_lt_iff_lt_mul h0).1 c;rw[List.getElem?_range c',if_pos c];simp only[Option.map_some,Option.bind_some,Array.getElem?_toList];rw[getElem!_pos te.zero.cells _ (by omega),Array.getElem?_eq_getElem (by omega)]
  .have c':¬j<m*te.size:=fun h=>c ((Nat.div_lt_iff_lt_mul h0).2 h);rw[List.getElem?_eq_none (by simp;omega),if_neg c];rfl
theorem clear_sound (hΓ:TysOk P Γ) (hm:Mem own0 mt w0 ρ H w) {ts:Array TypeId} {r k off m:Nat} {u:Value} (hx:RepD w (Ow own0 ρ H) ρ (.u r k off m) u) (T:TypeId)
 (hg:(clearE Γ ts H r k off m).gives P (d',ups)):MRun P own0 mt w0 ρ H w (Builtin.clear_ ts T #[u]) ups fun w' ow' ρ' v=>RepD w' ow' ρ' d' v:=by
 unfold clearE at hg
 split at hg
 .rename_i t0 h0
  split at hg
  .rename_i ty0 hy0;have ht0:=(hΓ _ _ hy0).under
   split at hg
   .rename_i e hd0;rw[hd0]at ht0
    split at hg
    .rename_i te hte;have hte:=hΓ _ _ hte
     split at hg
     .rename_i k' rows hr;obtain ⟨⟨rfl,rfl,h2⟩,hg⟩:=hg;have hg':(d',ups)=(_,_):=hg;cases hg';obtain ⟨hrl,pl,hpl,hrow⟩:=hm.blks r _ hr;obtain ⟨pl',hpl',hx⟩:=hx;rw[hpl]at hpl';cases hpl'
      have zero:m=0->updL H [(r,Blk.row te.size (putRows rows off (List.replicate m (zeroV te))))]=H:=by
       rintro rfl
       funext j
       simp only[updL,upd]
       split
       .rename_i h;subst h;simp[putRows,splice,hr]
       .rfl
      cases pl with
      | nil =>
       obtain ⟨rfl,a,rfl⟩:=hx;have st:Step own0 mt w0 ρ H w ρ (updL H [(r,Blk.row te.size (putRows rows off (List.replicate 0 (zeroV te))))]) w:=by rw[zero rfl];exact Step.refl hm
       cases a<;>exact ⟨.tuple #[],w,ρ,by simp[Builtin.clear_,h0,run_underlying ht0],st,trivial⟩
      | blk b base cap =>
       obtain ⟨hle,a,c,rfl,hc,ha⟩:=hx;obtain ⟨hcap,vs,T',fr,hb',hf,h4,h5⟩:=hrow;rcases Nat.eq_zero_or_pos m with hm0|hm0
       .have st:Step own0 mt w0 ρ H w ρ (updL H [(r,Blk.row te.size (putRows rows off (List.replicate m (zeroV te))))]) w:=by rw[zero hm0];exact Step.refl hm
        subst hm0;cases a<;>exact ⟨.tuple #[],w,ρ,by simp[Builtin.clear_,h0,run_underlying ht0],st,trivial⟩
       .have:=ha hm0;subst this
        have hz:All2 (RepV w (Ow own0 ρ H)) (List.replicate m (zeroV te)).flatten (List.replicate m te.zero.cells.toList).flatten:=by
         clear zero hg h2 hpl hle hc ha hcap hb' hf h4 h5 hm0
         induction m with
         | zero=>trivial
         | succ m ih =>
          simp only[List.replicate_succ,List.flatten_cons];refine All2.append ?_ ih;have hz:=all2_zero (w:=w) (ow:=Ow own0 ρ H) (ρ:=ρ) hte;unfold zeroV;generalize te.zero.cells.toList=l at hz
          induction l with
          | nil=>trivial
          | cons x l ih=>exact ⟨hz.1,ih hz.2⟩
        have hkz:∀x,x∈List.replicate m (zeroV te)->x.length=te.size:=fun x h=>by
         rw[(List.mem_replicate.1 h).2];simp[zeroV,hte.zsize]
        obtain ⟨w',hst,hstep⟩:=row_write (P:=P) hm hr hpl (off:=off) hz hkz (by omega) (by simp;omega);refine ⟨.tuple #[],w',ρ,?_,hstep,trivial⟩;obtain ⟨m',rfl⟩:∃m',m=m'+1:=⟨m - 1,by omega⟩
        simp[Builtin.clear_,h0,run_underlying ht0,run_zero hte,Yv hte,hst]
     .exact hg.elim
    .exact hg.elim
   .exact hg.elim
  .exact hg.elim
 .exact hg.elim
end
end Eng
end Go.Proofs.YtgenjpingdkmgaaGreatDoor
