/- Contracts of functions that this seat's law calls. No condition. -/
import Derived.Test.YtgenjpingdkmgaaGreatDoorG06
set_option maxRecDepth 100000
set_option linter.unusedSimpArgs false
set_option linter.unusedVariables false
namespace Go.Proofs.YtgenjpingdkmgaaGreatDoor
namespace Eng
section
variable {P:Program} {Γ:Nat->Option Ty} {own:Nat->Bool} {En En':Nat->D} {H H':Nat->Option Blk} {q:Bool}
 {d':D} {ups:Ups}
theorem updL_same {h h':Nat->Option Blk} {r:Nat} (u:Ups) (e:h r=h' r):updL h u r=updL h' u r:=by
 induction u generalizing h h' with
 | nil=>exact e
 | cons x u ih =>
  refine ih ?_;by_cases c:r=x.1
  .simp[upd,c]
  .rw[Zg _ _ c,Zg _ _ c];exact e
def idsE:E->List Nat
 | .c c=>idsC c
 | .a cs=>cs.flatMap idsC
def idsD:D->List Nat
 | .e e=>idsE e
 | .t es=>es.flatMap idsE
 | .p b _=>[b]
 | .q _=>[]
 | .w r _ _ _=>[r]
 | .u r _ _ _=>[r]
 | .g _ d=>idsD d
 | .top=>[]
def touch (ds:List D) (h:Nat->Option Blk):List Nat:=ds.flatMap fun d=>(idsD d).flatMap fun r=>r::(match h r with|some b=>idsB b|none=>[])
theorem touch_ids {ds:List D} {h:Nat->Option Blk} {d:D} {r:Nat} (hd:d∈ds) (hr:r∈idsD d):r∈touch ds h :=
 List.mem_flatMap.2 ⟨d,hd,List.mem_flatMap.2 ⟨r,hr,by simp⟩⟩
theorem frzCs_congr:∀ {cs:List C} {h h':Nat->Option Blk},(∀r,r∈cs.flatMap idsC->h r=h' r)->frzCs h cs=frzCs h' cs
 | [],_,_,_=>rfl
 | .v a::r,h,h',e=>by
  simp only[frzCs]
  rw[frzCs_congr fun x hx=>e x (by simp only[List.flatMap_cons,List.mem_append];exact .inr hx)]
 | .o r n::cs,h,h',e=>by
  have e0:h r=h' r:=e r (by simp[idsC]);have e1:frzC h (.o r n)=frzC h' (.o r n):=by simp only[frzC,e0]
  simp only[frzCs,e1]
  split
  .rename_i v u1 p1 _;rw[frzCs_congr fun x hx=>updL_same u1 (e x (by simp only[List.flatMap_cons,List.mem_append];exact .inr hx))]
  .rfl
theorem partsE_congr {size:Nat}:∀ {ps:List (Nat×D)} {j:Nat} {h h':Nat->Option Blk},(∀p,p∈ps->∀r,r∈idsD p.2->h r=h' r)->partsE size h j ps=partsE size h' j ps
 | [],_,_,_,_=>rfl
 | (i,.e e)::rest,j,h,h',hh=>by
  have e1:frzCs h e.cells=frzCs h' e.cells:=frzCs_congr fun r hr=>hh _ (List.mem_cons_self) r (by cases e<;>simpa[idsD,idsE,E.cells] using hr);simp only[partsE,e1]
  split
  .rename_i vs u1 p1 _;rw[partsE_congr fun p hp r hr=>updL_same u1 (hh p (by simp[hp]) r hr)]
  .rfl
 | (i,.t _)::rest,j,h,h',hh=>rfl
 | (i,.p _ _)::rest,j,h,h',hh=>rfl
 | (i,.q _)::rest,j,h,h',hh=>rfl
 | (i,.w _ _ _ _)::rest,j,h,h',hh=>rfl
 | (i,.u _ _ _ _)::rest,j,h,h',hh=>rfl
 | (i,.g _ _)::rest,j,h,h',hh=>rfl
 | (i,.top)::rest,j,h,h',hh=>rfl
theorem loadE_congr {ty:Ty} {d:D} (e:∀r,r∈idsD d->H r=H' r):loadE ty H q d=loadE ty H' q d:=by
 cases d with
 | p b off=>simp only[loadE,e b (by simp[idsD])]
 | w r k i off=>simp only[loadE,e r (by simp[idsD])]
 | _=>rfl
theorem storeE_congr {ty:Ty} {d x:D} (e:∀r,r∈idsD d->H r=H' r) (e':∀r,r∈idsD x->H r=H' r):storeE ty H d x=storeE ty H' d x:=by
 cases d with
 | p b off=>cases x with
  | e x=>simp only[storeE,e b (by simp[idsD])]
  | _=>rfl
 | w r k i off=>cases x with
  | e x =>
   have e1:frzCs H x.cells=frzCs H' x.cells:=frzCs_congr fun r hr=>e' r (by cases x<;>simpa[idsD,idsE,E.cells] using hr);have e2:H r=H' r:=e r (by simp[idsD]);simp only[storeE,e1,e2]
   split
   .split
    .rfl
    .split
     .rename_i vs u p _;rw[updL_same u e2]
     .rfl
   .split
    .rename_i vs u p _;rw[updL_same u e2]
    .rfl
  | _=>rfl
 | _=>rfl
theorem rowsOf_congr {d:D} (e:∀r,r∈idsD d->H r=H' r):rowsOf H d=rowsOf H' d:=by
 unfold rowsOf
 split
 .rfl
 .rfl
 .rename_i r n;rw[e r (by simp[idsD,idsE,idsC])]
 .rfl
theorem appendE_congr {ts:Array TypeId} {nx:Nat} {s x:D} (e:∀r,r∈idsD s->H r=H' r) (e':∀r,r∈idsD x->H r=H' r):appendE Γ ts H nx s x=appendE Γ ts H' nx s x:=by
 unfold appendE;rw[rowsOf_congr e']
 cases s with
 | e s=>cases s with
  | c s=>cases s with
   | o r n=>dsimp only;rw[e r (by simp[idsD,idsE,idsC])]
   | v v=>cases v with
    | s k rows=>rfl
    | f fn caps=>rfl
    | x v=>cases v with
     | slice a n c=>cases a<;>cases n<;>cases c<;>rfl
     | _=>rfl
  | a cs=>rfl
 | _=>rfl
theorem sliceE_congr {ty:Ty} {nx:Nat} {x:D} {l h m:Option D} (e:∀r,r∈idsD x->H r=H' r):sliceE Γ ty q H nx x l h m=sliceE Γ ty q H' nx x l h m:=by
 unfold sliceE
 cases x with
 | e s=>cases s with
  | c s=>cases s with
   | o r n=>dsimp only;rw[e r (by simp[idsD,idsE,idsC])]
   | v v=>cases v with
    | s k rows=>rfl
    | f fn caps=>rfl
    | x v=>cases v with
     | slice a n c=>cases a<;>cases n<;>cases c<;>rfl
     | _=>rfl
  | a cs=>rfl
 | _=>rfl
theorem viewE_congr {ty:Ty} {nx:Nat} {x:D} {l h m:Option D} (e:∀r,r∈idsD x->H r=H' r):viewE Γ ty q H nx x l h m=viewE Γ ty q H' nx x l h m:=by
 unfold viewE
 split
 .rename_i r n;rw[e r (by simp[idsD,idsE,idsC])]
 .exact sliceE_congr e
theorem viewFE_congr {ty:Ty} {nx:Nat} {x:D} {l h m:Option D} (e:∀r,r∈idsD x->H r=H' r):viewFE Γ ty q H nx x l h m=viewFE Γ ty q H' nx x l h m:=by
 unfold viewFE
 split
 .rename_i r n;rw[viewE_congr (H:=H) (H':=H') e,e r (by simp[idsD,idsE,idsC])]
 .exact viewE_congr e
theorem capFE_congr {ty:Ty} {x:D} (e:∀r,r∈idsD x->H r=H' r):capFE ty H x=capFE ty H' x:=by
 unfold capFE
 split
 .rename_i r n;rw[e r (by simp[idsD,idsE,idsC])]
 .rfl
theorem appendFE_congr {ts:Array TypeId} {nx:Nat} {s:D} {n:Int} (e:∀r,r∈idsD s->H r=H' r):appendFE Γ ts H nx s n=appendFE Γ ts H' nx s n:=by
 unfold appendFE
 split
 .rename_i r m;rw[e r (by simp[idsD,idsE,idsC])]
 .rfl
theorem copySrc_congr {x:D} (e:∀r,r∈idsD x->H r=H' r):copySrc H x=copySrc H' x:=by
 unfold copySrc
 split
 .rename_i r n;rw[e r (by simp[idsD,idsE,idsC])]
 .rename_i r k off n;rw[e r (by simp[idsD])]
 .rfl
 .rfl
theorem copyE_congr {ts:Array TypeId} {x y:D} (e:∀r,r∈idsD x->H r=H' r) (e':∀r,r∈idsD y->H r=H' r):copyE Γ ts H x y=copyE Γ ts H' x y:=by
 unfold copyE;rw[copySrc_congr e']
 cases x with
 | u r k off n=>dsimp only;rw[e r (by simp[idsD])]
 | _=>rfl
theorem cutE_congr {vw:Bool} {ty:Ty} {nx:Nat} {x:D} {l h m:Option D} (e:∀r,r∈idsD x->H r=H' r):cutE vw Γ ty q H nx x l h m=cutE vw Γ ty q H' nx x l h m:=by
 unfold cutE;rw[viewFE_congr e,sliceE_congr e]
theorem appE_congr {ts:Array TypeId} {nx:Nat} {s x:D} (e:∀r,r∈idsD s->H r=H' r) (e':∀r,r∈idsD x->H r=H' r):appE Γ ts H nx s x=appE Γ ts H' nx s x:=by
 unfold appE
 split
 .split
  .rename_i r n;simp only[appendUE];rw[e r (by simp[idsD,idsE,idsC])]
  .rfl
 .exact appendFE_congr e
 .exact appendE_congr e e'
theorem convHE_congr {s t:TypeId} {nx:Nat} {x:D} (e:∀r,r∈idsD x->H r=H' r):convHE Γ H nx s t x=convHE Γ H' nx s t x:=by
 unfold convHE;rw[rowsOf_congr e]
 cases x with
 | e s=>cases s with
  | c s=>cases s with
   | o r n=>dsimp only;rw[e r (by simp[idsD,idsE,idsC])]
   | v v=>cases v with
    | s k rows=>rfl
    | f fn caps=>rfl
    | x v=>cases v<;>rfl
  | a cs=>rfl
 | _=>rfl
theorem passD_congr {o:Bool} {hs:List Nat} {d:D} (e:∀r,r∈idsD d->H r=H' r):passD o hs H d=passD o hs H' d:=by
 have f:∀x:E,d=.e x->frzD H (.e x)=frzD H' (.e x):=fun x hx=>by
  subst hx
  cases x with
  | c c=>simp only[frzD];rw[frzCs_congr (h:=H) (h':=H') fun r hr=>e r (by simpa[idsD,idsE] using hr)]
  | a cs=>simp only[frzD];rw[frzCs_congr (h:=H) (h':=H') fun r hr=>e r (by simpa[idsD,idsE] using hr)]
 cases d with
 | e x=>simp only[passD];rw[f x rfl]
 | _=>rfl
theorem passDs_congr {o:Bool} {hs:List Nat}:∀ {ds:List D} {h h':Nat->Option Blk},(∀d,d∈ds->∀r,r∈idsD d->h r=h' r)->passDs o hs h ds=passDs o hs h' ds
 | [],_,_,_=>rfl
 | d::ds,h,h',e=>by
  simp only[passDs];rw[passD_congr fun r hr=>e d (by simp) r hr]
  split
  .rename_i d' u1 p1 _;rw[passDs_congr fun d hd r hr=>updL_same u1 (e d (by simp[hd]) r hr)]
  .rfl
theorem handD_congr {o:Bool} {d:D} (e:∀r,r∈idsD d->H r=H' r):handD o H d=handD o H' d:=by
 cases d with
 | p b off=>simp only[handD,e b (by simp[idsD])]
 | e x=>cases x<;>rfl
 | _=>rfl
theorem callE_congr {o:Bool} {nx f:Nat} {ds:List D} (e:∀r,r∈touch ds H->H r=H' r):callE o H nx q f ds=callE o H' nx q f ds:=by
 have e1:∀d,d∈ds->∀r,r∈idsD d->H r=H' r:=fun d hd r hr=>e r (touch_ids hd hr)
 have hh:ds.flatMap (handD o H)=ds.flatMap (handD o H'):=by
  have:∀d,d∈ds->handD o H d=handD o H' d:=fun d hd=>handD_congr (e1 d hd);clear e e1
  induction ds with
  | nil=>rfl
  | cons d ds ih=>simp only[List.flatMap_cons];rw[this d (by simp),ih fun d hd=>this d (by simp[hd])]
 have hsub:∀r,r∈ds.flatMap (handD o H)->H r=H' r:=fun r hr=>by
  obtain ⟨d,hd,hr⟩:=List.mem_flatMap.1 hr
  cases d with
  | p b off =>
   simp only[handD,List.mem_cons]at hr;rcases hr with rfl|hr
   .exact e1 _ hd _ (by simp[idsD])
   .refine e r (List.mem_flatMap.2 ⟨_,hd,List.mem_flatMap.2 ⟨b,by simp[idsD],?_⟩⟩)
    simp only[List.mem_cons];exact .inr hr
  | e x =>
   cases x with
   | c c=>simp only[handD]at hr;split at hr<;>first|(exfalso;simp at hr;done)|exact e1 _ hd r (by simpa[idsD,idsE] using hr)
   | a cs=>simp only[handD]at hr;split at hr<;>first|(exfalso;simp at hr;done)|exact e1 _ hd r (by simpa[idsD,idsE] using hr)
  | u r' k off n=>simp only[handD]at hr;split at hr<;>first|(exfalso;simp at hr;done)|exact e1 _ hd r (by simpa[idsD] using hr)
  | _=>simp[handD]at hr
 simp only[callE];rw[<-hh,passDs_congr (h:=H) (h':=H') e1]
 split
 .rename_i args u1 p _;have e2:∀r,r∈ds.flatMap (handD o H)->updL H u1 r=updL H' u1 r:=fun r hr=>updL_same u1 (hsub r hr)
  have m1:((ds.flatMap (handD o H)).map fun r=>renBlk (pos (ds.flatMap (handD o H))) ((updL H u1 r).getD .gone))=((ds.flatMap (handD o H)).map fun r=>renBlk (pos (ds.flatMap (handD o H))) ((updL H' u1 r).getD .gone)) :=
   List.map_congr_left fun r hr=>by rw[e2 r hr]
  have m2:((ds.flatMap (handD o H)).all fun r=>live (updL H u1 r) && ((updL H u1 r).map idsB |>.getD []).all ((ds.flatMap (handD o H)).contains ·))=((ds.flatMap (handD o H)).all fun r=>live (updL H' u1 r) && ((updL H' u1 r).map idsB |>.getD []).all ((ds.flatMap (handD o H)).contains ·)):=by
   have:∀l:List Nat,(∀r,r∈l->r∈ds.flatMap (handD o H))->(l.all fun r=>live (updL H u1 r) && ((updL H u1 r).map idsB |>.getD []).all ((ds.flatMap (handD o H)).contains ·))=(l.all fun r=>live (updL H' u1 r) && ((updL H' u1 r).map idsB |>.getD []).all ((ds.flatMap (handD o H)).contains ·)):=by
    intro l hl
    induction l with
    | nil=>rfl
    | cons x l ih=>simp only[List.all_cons];rw[e2 x (hl x (by simp)),ih fun r hr=>hl r (by simp[hr])]
   exact this _ fun _ h=>h
  rw[m1,m2]
 .rfl
def blind:Op->Bool
 | .move _|.assign _|.nilCheck _|.fieldAddr _ _ _=>true
 | _=>false
def opDs (En:Nat->D) (o:Op):List D:=bif blind o then [] else o.operands.toList.map (evO En)
theorem need_ids {α:Type} {d:D} {k k':D->Tr α} (h:∀d',(∀r,r∈idsD d'->r∈idsD d)->k d'=k' d'):need q d k=need q d k':=by
 cases d with
 | g b d=>simp only[need];rw[h d fun r hr=>by simpa[idsD] using hr]
 | _=>exact h _ fun _ hr=>hr
theorem needO_ids {α:Type} {d:Option D} {k k':Option D->Tr α} (h:∀d',k d'=k' d'):needO q d k=needO q d k':=by
 cases d with
 | none=>exact h none
 | some d=>exact need_ids fun d' _=>h (some d')
theorem needL_ids {α:Type}:∀ {ds:List D} {k k':List D->Tr α},(∀ds',ds'.length=ds.length->(∀d,d∈ds'->∃d0,d0∈ds/\∀r,r∈idsD d->r∈idsD d0)->k ds'=k' ds')->needL q ds k=needL q ds k'
 | [],k,k',h=>h [] rfl fun d hd=>by simp at hd
 | d::ds,k,k',h=>by
  simp only[needL];refine need_ids fun d' hd'=>needL_ids fun ds' hl hds'=>h _ (by simp[hl]) fun x hx=>?_;rcases List.mem_cons.1 hx with rfl|hx
  .exact ⟨d,by simp,hd'⟩
  .obtain ⟨d0,h1,h2⟩:=hds' x hx;exact ⟨d0,by simp[h1],h2⟩
theorem opE_congr {o:Op} {nx:Nat} (he:∀x,x∈o.operands->evO En x=evO En' x) (hh:∀r,r∈touch (opDs En o) H->H r=H' r):opE Γ own o En H nx q=opE Γ own o En' H' nx q:=by
 have idsX:blind o=false->∀x,x∈o.operands->∀r,r∈idsD (evO En x)->H r=H' r:=fun hb x hx r hr=>hh r (touch_ids (d:=evO En x) (by unfold opDs;rw[hb];exact List.mem_map.2 ⟨x,by simpa using hx,rfl⟩) hr);have mapE:∀xs:List Operand,(∀x,x∈xs->x∈o.operands)->xs.map (evO En)=xs.map (evO En'):=fun xs hx=>List.map_congr_left fun x hm=>he x (hx x hm);have mapP:∀ps:List (Nat×Operand),(∀p,p∈ps->p.2∈o.operands)->(ps.map fun p=>evO En p.2)=ps.map fun p=>evO En' p.2:=fun ps hx=>List.map_congr_left fun p hm=>he p.2 (hx p hm)
 have optE:∀x:Option Operand,(∀y,x=some y->y∈o.operands)->x.map (evO En)=x.map (evO En'):=fun x hx=>by
  cases x with
  | none=>rfl
  | some y=>simp only[Option.map_some];rw[he y (hx y rfl)]
 cases o with
 | move x=>simp only[opE];rw[he x (by simp[Op.operands])]
 | assign x=>simp only[opE];rw[he x (by simp[Op.operands])]
 | pick c a b=>simp only[opE];rw[he c (by simp[Op.operands]),he a (by simp[Op.operands]),he b (by simp[Op.operands])]
 | alloc t=>rfl
 | box t x=>simp only[opE];rw[he x (by simp[Op.operands])]
 | build t ps =>
  simp only[opE]
  rw[mapP ps.toList fun p hp=>by simp only[Op.operands,List.mem_toArray,List.mem_map];exact ⟨p,hp,rfl⟩]
 | buildSlice t n ps =>
  have hp:∀p,p∈ps.toList->p.2∈(Op.buildSlice t n ps).operands:=fun p hp=>by simp only[Op.operands,List.mem_toArray,List.mem_map];exact ⟨p,hp,rfl⟩
  simp only[opE];rw[<-mapP ps.toList hp];unfold withTy
  split
  .refine needL_ids fun ds hl hds=>?_
   have e:∀size,partsE size H 0 ((ps.toList.map (·.1)).zip ds)=partsE size H' 0 ((ps.toList.map (·.1)).zip ds):=fun size=>partsE_congr fun p hpm r hr=>by
    obtain ⟨d0,h1,h2⟩:=hds p.2 (List.of_mem_zip hpm).2;simp only[List.mem_map]at h1;obtain ⟨p0,h3,rfl⟩:=h1;exact idsX rfl p0.2 (hp p0 h3) r (h2 r hr)
   simp only[buildSliceE,e]
  .rfl
 | load t x =>
  simp only[opE];rw[<-he x (by simp[Op.operands])];unfold withTy
  split
  .exact need_ids fun d hd=>loadE_congr fun r hr=>idsX rfl x (by simp[Op.operands]) r (hd r hr)
  .rfl
 | store t x y =>
  simp only[opE];rw[<-he x (by simp[Op.operands]),<-he y (by simp[Op.operands])];unfold withTy
  split
  .exact need_ids fun d hd=>need_ids fun e he'=>storeE_congr (fun r hr=>idsX rfl x (by simp[Op.operands]) r (hd r hr)) fun r hr=>idsX rfl y (by simp[Op.operands]) r (he' r hr)
  .rfl
 | nilCheck x=>simp only[opE];rw[he x (by simp[Op.operands])]
 | binOp op t x y ty=>simp only[opE];rw[he x (by simp[Op.operands]),he y (by simp[Op.operands])]
 | unOp op t x=>simp only[opE];rw[he x (by simp[Op.operands])]
 | convert s t x =>
  simp only[opE];rw[<-he x (by simp[Op.operands])]
  exact need_ids fun d hd=>convHE_congr fun r hr=>idsX rfl x (by simp[Op.operands]) r (hd r hr)
 | slice t x lo hi mx =>
  simp only[opE];rw[<-he x (by simp[Op.operands]),<-optE lo fun y hy=>by subst hy;simp[Op.operands],<-optE hi fun y hy=>by subst hy;simp[Op.operands],<-optE mx fun y hy=>by subst hy;simp[Op.operands]];unfold withTy
  split
  .exact need_ids fun d hd=>needO_ids fun _=>needO_ids fun _=>needO_ids fun _=>cutE_congr fun r hr=>idsX rfl x (by simp[Op.operands]) r (hd r hr)
  .rfl
 | fieldAddr t x f=>simp only[opE];rw[he x (by simp[Op.operands])]
 | field t x f=>simp only[opE];rw[he x (by simp[Op.operands])]
 | indexAddr t x i=>simp only[opE];rw[he x (by simp[Op.operands]),he i (by simp[Op.operands])]
 | index t x i=>simp only[opE];rw[he x (by simp[Op.operands]),he i (by simp[Op.operands])]
 | extract x i=>simp only[opE];rw[he x (by simp[Op.operands])]
 | makeSlice t l c=>simp only[opE];rw[he l (by simp[Op.operands]),he c (by simp[Op.operands])]
 | call c =>
  have hc:∀x,x∈c.args.toList->x∈(Op.call c).operands:=fun x hx=>by simp only[Op.operands,Call.operands,Array.mem_append];exact .inr (by simpa using hx)
  simp only[opE];rw[<-mapE c.args.toList hc];refine needL_ids fun ds hl hds=>?_
  have hids:∀d,d∈ds->∀r,r∈idsD d->H r=H' r:=fun d hd r hr=>by
   obtain ⟨d0,h1,h2⟩:=hds d hd;simp only[List.mem_map]at h1;obtain ⟨x,h3,rfl⟩:=h1;exact idsX rfl x (hc x h3) r (h2 r hr)
  split
  .refine callE_congr fun r hr=>?_;obtain ⟨d,hd,hr⟩:=List.mem_flatMap.1 hr;obtain ⟨b,hb,hr⟩:=List.mem_flatMap.1 hr;obtain ⟨d0,h1,h2⟩:=hds d hd;simp only[List.mem_map]at h1;obtain ⟨x,h3,rfl⟩:=h1;refine hh r (List.mem_flatMap.2 ⟨evO En x,List.mem_map.2 ⟨x,by simpa using hc x h3,rfl⟩,List.mem_flatMap.2 ⟨b,h2 b hb,hr⟩⟩)
  .rename_i t ht;have e:En' t=En t:=(he (.tmp t) (by simp[Op.operands,Call.operands,ht])).symm;rw[e];refine need_ids fun d _=>?_
   have key:∀f (ds':List D),(∀d,d∈ds'->d∈ds\/∃cs,d=.q cs)->callE (own f) H nx q f ds'=callE (own f) H' nx q f ds':=fun f ds' hsub=>callE_congr fun r hr=>by
    obtain ⟨d,hd,hr⟩:=List.mem_flatMap.1 hr;rcases hsub d hd with hd|⟨cs,rfl⟩
    .obtain ⟨b,hb,hr⟩:=List.mem_flatMap.1 hr;obtain ⟨d0,h1,h2⟩:=hds d hd;simp only[List.mem_map]at h1;obtain ⟨x,h3,rfl⟩:=h1;exact hh r (List.mem_flatMap.2 ⟨evO En x,List.mem_map.2 ⟨x,by simpa using hc x h3,rfl⟩,List.mem_flatMap.2 ⟨b,h2 b hb,hr⟩⟩)
    .simp[idsD]at hr
   unfold callvE
   split
   .exact key _ _ fun d hd=>by
     rcases List.mem_append.1 hd with h|h
     .exact .inl h
     .obtain ⟨cs,_,rfl⟩:=List.mem_map.1 h;exact .inr ⟨cs,rfl⟩
   .exact key _ _ fun d hd=>.inl hd
   .rfl
  .rename_i b _;unfold builtinE
   split
   .rfl
   .split
    .rename_i d t _;unfold withTy
     split
     .exact capFE_congr fun r hr=>hids d (by simp) r hr
     .rfl
    .rfl
   .split
    .rename_i s x;exact appE_congr (fun r hr=>hids s (by simp) r hr) fun r hr=>hids x (by simp) r hr
    .rfl
   .split
    .rename_i r k off m;simp only[clearE];rw[hids _ (List.mem_singleton.2 rfl) r (by simp[idsD])]
    .rfl
   .split
    .rename_i x y;exact copyE_congr (fun r hr=>hids x (by simp) r hr) fun r hr=>hids y (by simp) r hr
    .rfl
   .rfl
   .rfl
   .rfl
  .rfl
 | makeFunc fn first caps =>
  have hc:∀x,x∈caps.toList->x∈(Op.makeFunc fn first caps).operands:=fun x hx=>by simp only[Op.operands,Array.mem_append];exact .inr (by simpa using hx)
  simp only[opE];rw[<-mapE caps.toList hc];refine needL_ids fun ds hl hds=>?_
  have hids:∀d,d∈ds->∀r,r∈idsD d->H r=H' r:=fun d hd r hr=>by
   obtain ⟨d0,h1,h2⟩:=hds d hd;simp only[List.mem_map]at h1;obtain ⟨x,h3,rfl⟩:=h1;exact idsX rfl x (hc x h3) r (h2 r hr)
  have key:∀(ds:List D) (h h':Nat->Option Blk),(∀d,d∈ds->∀r,r∈idsD d->h r=h' r)->capsE h ds=capsE h' ds:=by
   intro ds
   induction ds with
   | nil=>intro h h' _;rfl
   | cons d ds ih =>
    intro h h' hh
    cases d with
    | p b off =>
     cases off with
     | zero =>
      simp only[capsE];rw[hh (.p b 0) (by simp) b (by simp[idsD])]
      split
      .split
       .rename_i vs _
        rw[ih (upd h b (some (.ice vs.length [vs]))) (upd h' b (some (.ice vs.length [vs]))) fun d hd r hr=>by
         unfold upd;split
         .rfl
         .exact hh d (by simp[hd]) r hr]
       .rfl
      .rw[ih h h' fun d hd r hr=>hh d (by simp[hd]) r hr]
      .rfl
     | succ n=>rfl
    | q cs =>
     simp only[capsE]
     rw[ih h h' fun d hd r hr=>hh d (by simp[hd]) r hr]
    | _=>rfl
  simp only[makeFuncE,key ds H H' hids]
 | _=>rfl
end
section
def putE (En:Nat->D) (dst:Option Tmp) (d:D):Nat->D :=
 match dst with
 | some t=>upd En t d
 | none=>En
def dstL:List Oper->List (Option Tmp)
 | []=>[]
 | o::r=>o.dst::dstL r
theorem dstL_get:∀(l:List Oper) (j:Nat),((dstL l)[j]?).bind id=(l[j]?).bind (·.dst)
 | [],j=>by simp[dstL]
 | o::r,0=>by simp[dstL]
 | o::r,j+1=>by simpa[dstL] using dstL_get r j
theorem dsts_get (ops:Array Oper) (j:Nat):((dstL ops.toList)[j]?).bind id=(ops[j]?).bind (·.dst):=by
 rw[dstL_get];simp
def guardB (ds:List (Option Tmp)) (En:Nat->D) (g:Nat×Bool):Option Bool :=
 match (ds[g.1]?).bind id with
 | some t=>match En t with
  | .x (.bool b)=>some (b == g.2)
  | .g c (.x (.bool b))=>some (c && (b == g.2))
  | _=>none
 | none=>none
def small (n:Nat) (ups:Ups):Bool:=ups.all fun u=>decide (u.1<n)
def stepS (P:Program) (Γ:Nat->Option Ty) (own:Nat->Bool) (ds:List (Option Tmp)) (o:Oper) (En:Nat->D) (H:Nat->Option Blk) (nx:Nat) (K:D->Ups->Prop):Prop :=
 match o.guard with
 | none=>(opE Γ own o.op En H nx true).sat P fun x=>small (nx+64) x.2=true/\K x.1 x.2
 | some g=>match guardB ds En g with
  | none=>False
  | some q=>(opE Γ own o.op En H nx q).sat P fun x=>match x.2 with
   | []=>K (.g q x.1) []
   | u::us=>(q=true->small (nx+64) (u::us)=true/\K x.1 (u::us))/\(q=false->K .top [])
def StepG (P:Program) (Γ:Nat->Option Ty) (own:Nat->Bool) (ds:List (Option Tmp)) (o:Oper) (En:Nat->D) (H:Nat->Option Blk) (nx:Nat) (d:D) (ups:Ups):Prop :=
 small (nx+64) ups=true/\match o.guard with
 | none=>(opE Γ own o.op En H nx true).gives P (d,ups)
 | some g=>∃q,guardB ds En g=some q/\((∃d0,(opE Γ own o.op En H nx q).gives P (d0,[])/\d=.g q d0/\ups=[])\/(q=true/\(opE Γ own o.op En H nx q).gives P (d,ups))\/(q=false/\d=.top/\ups=[]))
variable {P:Program} {Γ:Nat->Option Ty} {own:Nat->Bool} {ops:Array Oper} {own0 mt:Nat->Prop} {w0 w w':World} {ρ0 ρ ρ':Nat->Option Pl} {En En':Nat->D} {H H':Nat->Option Blk}
theorem stepS_gives {ds:List (Option Tmp)} {o:Oper} {nx:Nat} {K:D->Ups->Prop} (h:stepS P Γ own ds o En H nx K):∃d ups,StepG P Γ own ds o En H nx d ups/\K d ups:=by
 unfold stepS at h
 cases hg:o.guard with
 | none =>
  rw[hg]at h;obtain ⟨x,hx,hs,hk⟩:=Tr.sat_gives h
  exact ⟨x.1,x.2,⟨hs,by rw[hg];exact hx⟩,hk⟩
 | some g =>
  rw[hg]at h;dsimp only at h
  cases hb:guardB ds En g with
  | none=>rw[hb]at h;exact h.elim
  | some q =>
   rw[hb]at h;obtain ⟨⟨d,ups⟩,hx,hk⟩:=Tr.sat_gives h
   cases ups with
   | nil=>exact ⟨_,_,⟨rfl,by rw[hg];exact ⟨q,hb,.inl ⟨d,hx,rfl,rfl⟩⟩⟩,hk⟩
   | cons u us =>
    cases q with
    | true=>obtain ⟨hs,hk⟩:=hk.1 rfl;exact ⟨_,_,⟨hs,by rw[hg];exact ⟨true,hb,.inr (.inl ⟨rfl,hx⟩)⟩⟩,hk⟩
    | false=>exact ⟨_,_,⟨rfl,by rw[hg];exact ⟨false,hb,.inr (.inr ⟨rfl,rfl,rfl⟩)⟩⟩,hk.2 rfl⟩
theorem getD_some {ts:Array Value} {t:Nat} {v:Value} (h:ts.getD t undef=v) (hv:v≠undef):ts[t]?=some v:=by
 rw[Array.getD_eq_getD_getElem?]at h
 cases hs:ts[t]? with
 | none=>rw[hs]at h;exact absurd h.symm hv
 | some x=>rw[hs]at h;simp at h;rw[h]
theorem guardB_sound {a:Act} (ht:∀t,RepD w (Ow own0 ρ H) ρ (En t) (a.tmps.getD t undef)) {o:Oper} {g:Nat×Bool} (hg:o.guard=some g) {q:Bool} (h:guardB (dstL ops.toList) En g=some q) :
 Region.wanted o (yielded ops a.tmps)=q:=by
 unfold guardB at h;rw[dsts_get]at h
 split at h
 .rename_i t hd;have htt:=ht t
  have hy:∀b:Bool,a.tmps.getD t undef=.bool b->yielded ops a.tmps g.1=some b:=fun b hb=>by
   have:=getD_some hb (by intro h;cases h);simp[yielded,hd,this]
  split at h
  .rename_i b he;rw[he]at htt;cases h;have:=hy b (rep_x htt).1;simp only[Region.wanted,hg,this];cases b<;>cases g.2<;>rfl
  .rename_i c b he;rw[he]at htt;cases h;obtain ⟨h1,h2⟩:=htt
   cases c with
   | true =>
    have:=hy b (rep_x (h1 rfl)).1;simp only[Region.wanted,hg,this]
    cases b<;>cases g.2<;>rfl
   | false =>
    have hu:=h2 rfl
    have:yielded ops a.tmps g.1=none:=by
     simp only[yielded,hd,Option.bind_some];rw[Array.getD_eq_getD_getElem?]at hu
     cases hs:a.tmps[t]? with
     | none=>rfl
     | some x=>rw[hs]at hu;simp at hu;subst hu;rfl
    simp[Region.wanted,hg,this]
  .cases h
 .cases h
structure Now (own0 mt:Nat->Prop) (w0:World) (ρ0:Nat->Option Pl) (N:Nat) (En:Nat->D) (H:Nat->Option Blk) (nx:Nat) (a:Act) (w:World):Prop where
 rel:∃ ρ,Rel own0 mt w0 ρ0 N ρ En H a w
 fresh:∀j,nx<=j->H j=none
theorem Rel.put {N:Nat} {a:Act} (hr:Rel own0 mt w0 ρ0 N ρ En H a w) {ups:Ups} (hs:Step own0 mt w0 ρ H w ρ' (updL H ups) w') {dst:Option Tmp} (hN:∀t,dst=some t->t<N) {d:D} {v:Value} (hd:RepD w' (Ow own0 ρ' (updL H ups)) ρ' d v) :
 Rel own0 mt w0 ρ0 N ρ' (putE En dst d) (updL H ups) (a.put dst v) w' where
 defers:=by cases dst<;>exact hr.defers
 base:=hr.base.trans hs.sub
 size:=by cases dst<;>simp[Act.put,hr.size]
 tmps t:=by
  cases dst with
  | none=>exact hs.rep (hr.tmps t)
  | some t' =>
   by_cases e:t=t'
   .subst e;have hlt:=hN t rfl
    have:(a.put (some t) v).tmps.getD t undef=v:=by
     rw[Array.getD_eq_getD_getElem?];simp only[Act.put];rw[Array.getElem?_setIfInBounds_self_of_lt (by rw[hr.size];exact hlt)];rfl
    rw[this];simpa[putE] using hd
   .have:(a.put (some t') v).tmps.getD t undef=a.tmps.getD t undef:=by
     rw[Array.getD_eq_getD_getElem?,Array.getD_eq_getD_getElem?];simp only[Act.put];rw[Array.getElem?_setIfInBounds_ne (fun h=>e h.symm)]
    rw[this];simp only[putE,Zg _ _ e];exact hs.rep (hr.tmps t)
 mem:=hs.mem
theorem step_run (hΓ:TysOk P Γ) {N:Nat} {a:Act} (hr:Rel own0 mt w0 ρ0 N ρ En H a w) {i:Nat} {o:Oper} (ho:ops[i]?=some o) (hN:∀t,o.dst=some t->t<N) {nx:Nat} (hnx:∀j,nx<=j->j<nx+64->H j=none)
 {d:D} {ups:Ups} (hg:StepG P Γ own (dstL ops.toList) o En H nx d ups) (K:Act->World->Prop) (Q:Exit->Act->World->Prop) (hK:∀ ρ' a' w',Rel own0 mt w0 ρ0 N ρ' (putE En o.dst d) (updL H ups) a' w'->K a' w') :
 wpOp P ops Q i K a w:=by
 unfold wpOp;simp only[ho];obtain ⟨_,hg⟩:=hg
 cases hgd:o.guard with
 | none =>
  rw[hgd]at hg;have hw:Region.wanted o (yielded ops a.tmps)=true:=by simp[Region.wanted,hgd]
  rw[if_pos hw]
  exact .inl (op_sound hΓ hr.mem hr.tmps hnx rfl hg K Q fun v w' ρ' h=>hK ρ' _ w' (hr.put h.step hN h.rep))
 | some g =>
  rw[hgd]at hg;obtain ⟨q,hb,hg⟩:=hg;have hw:=guardB_sound hr.tmps hgd hb
  cases q with
  | true =>
   rw[if_pos hw];rcases hg with ⟨d0,hg,rfl,rfl⟩|⟨_,hg⟩|⟨hf,_⟩
   .exact .inl (op_sound hΓ hr.mem hr.tmps hnx rfl hg K Q fun v w' ρ' h=>hK ρ' _ w' (hr.put h.step hN ⟨fun _=>h.rep,fun h=>by cases h⟩))
   .exact .inl (op_sound hΓ hr.mem hr.tmps hnx rfl hg K Q fun v w' ρ' h=>hK ρ' _ w' (hr.put h.step hN h.rep))
   .cases hf
  | false =>
   rw[if_neg (by rw[hw];simp)];have h0:∀d,RepD w (Ow own0 ρ H) ρ d undef->d=d->K (a.put o.dst undef) w->K (a.put o.dst undef) w:=fun _ _ _ h=>h;rcases hg with ⟨d0,hg,rfl,rfl⟩|⟨hf,_⟩|⟨_,rfl,rfl⟩
   .exact hK ρ _ w (hr.put (ups:=[]) (Step.refl hr.mem) hN ⟨(fun h=>by cases h),fun _=>rfl⟩)
   .cases hf
   .exact hK ρ _ w (hr.put (ups:=[]) (Step.refl hr.mem) hN trivial)
def goS (P:Program) (Γ:Nat->Option Ty) (own:Nat->Bool) (ds:List (Option Tmp)) (K:(Nat->D)->(Nat->Option Blk)->List (List Nat×List Nat)->Prop):Nat->List Oper->(Nat->D)->(Nat->Option Blk)->List (List Nat×List Nat)->Prop
 | _,[],En,H,hist=>K En H hist
 | nx,o::r,En,H,hist=>stepS P Γ own ds o En H nx fun d ups=>goS P Γ own ds K (nx+64) r (putE En o.dst d) (updL H ups) (hist++[(touch (opDs En o.op) H,ups.map (·.1))])
def isNilOp:Op->Option (TypeId×Operand×Bool)
 | .binOp .eql t x (.const (.slice none 0 0)) _=>some (t,x,false)
 | .binOp .neq t x (.const (.slice none 0 0)) _=>some (t,x,true)
 | _=>none
def nilS (Γ:Nat->Option Ty) (t:TypeId) (d:D) (neg:Bool) (K:D->Prop):Prop :=
 match Γ t with
 | some ty=>match ty.desc with
  | .slice _=>match d with
   | .e (.c (.v (.s _ rows)))=>∀b:Bool,(b=true->rows=[])->K (.x (.bool (if neg then !b else b)))
   | .e (.c (.o _ n))=>∀b:Bool,(b=true->n=0)->K (.x (.bool (if neg then !b else b)))
   | .e (.c (.v (.x (.slice none 0 0))))=>K (.x (.bool (!neg)))
   | _=>False
  | _=>False
 | none=>False
def goN (P:Program) (Γ:Nat->Option Ty) (own:Nat->Bool) (ds:List (Option Tmp)) (K:(Nat->D)->(Nat->Option Blk)->Nat->Prop):Nat->List Oper->(Nat->D)->(Nat->Option Blk)->Prop
 | nx,[],En,H=>K En H nx
 | nx,o::r,En,H=>match isNilOp o.op,o.guard with
  | some (t,x,neg),none=>nilS Γ t (evO En x) neg fun d=>goN P Γ own ds K (nx+64) r (putE En o.dst d) H
  | _,_=>stepS P Γ own ds o En H nx fun d ups=>goN P Γ own ds K (nx+64) r (putE En o.dst d) (updL H ups)
theorem run_equal_nil {t e:TypeId} {a:Option Addr} {n c:Nat} (hu:P.underlying t=some (.slice e)):(Op.equal t (.slice a n c) (.slice none 0 0)).run P w=.ok a.isNone w:=by
 have h:∀k,(Op.equalIn (k+1) t (.slice a n c) (.slice none 0 0)).run P w=.ok a.isNone w:=by
  intro k;rw[Op.equalIn,Sem.run_bind,run_underlying hu];cases a<;>rfl
 exact h 9999
theorem isNilOp_spec {op:Op} {t:TypeId} {x:Operand} {neg:Bool} (h:isNilOp op=some (t,x,neg)):∃ty,op=.binOp (if neg then .neq else .eql) t x (.const (.slice none 0 0)) ty:=by
 unfold isNilOp at h
 split at h
 .cases h;exact ⟨_,rfl⟩
 .cases h;exact ⟨_,rfl⟩
 .cases h
theorem nil_run (hΓ:TysOk P Γ) {N:Nat} {a:Act} (hr:Rel own0 mt w0 ρ0 N ρ En H a w) {i:Nat} {o:Oper} (ho:ops[i]?=some o) (hN:∀t,o.dst=some t->t<N) (hgd:o.guard=none) {t:TypeId} {x:Operand} {neg:Bool} (hop:isNilOp o.op=some (t,x,neg))
 {K':D->Prop} (h:nilS Γ t (evO En x) neg K') (K:Act->World->Prop) (Q:Exit->Act->World->Prop) (hK:∀d a' ,K' d->Rel own0 mt w0 ρ0 N ρ (putE En o.dst d) H a' w->K a' w):wpOp P ops Q i K a w:=by
 obtain ⟨ty',hop⟩:=isNilOp_spec hop;unfold wpOp;simp only[ho];have hw:Region.wanted o (yielded ops a.tmps)=true:=by simp[Region.wanted,hgd]
 rw[if_pos hw];refine .inl ?_;unfold nilS at h
 split at h
 .rename_i ty hty;have hu:=(hΓ _ _ hty).under
  split at h
  .rename_i e hdesc;rw[hdesc]at hu;have hx:=rep_evO hr.mem.tabs hr.tmps x
   have key:∀(ad:Option Addr) (n c:Nat),a.eval x=.slice ad n c->K' (.x (.bool (if neg then !ad.isNone else ad.isNone)))->o.wp P a w K Q:=by
    intro ad n c he hk;unfold Oper.wp;have hcn:a.eval (.const (.slice none 0 0))=.slice none 0 0:=rfl
    have hrun:(execOp a.eval o).run P w=.ok (.value (.bool (if neg then !ad.isNone else ad.isNone))) w:=by
     cases neg
     .simp only[Bool.false_eq_true,if_false]at hop ⊢;simp[execOp,hop,he,hcn,eqGuard,Go.binOp,run_equal_nil hu]
     .simp only[if_true]at hop ⊢;simp[execOp,hop,he,hcn,eqGuard,Go.binOp,run_equal_nil hu]
    rw[hrun];simp only[Oper.upon];exact hK _ _ hk (hr.put (ups:=[]) (Step.refl hr.mem) hN (RepV.x _ rfl))
   split at h
   .rename_i k rows heq;rw[heq]at hx;obtain ⟨ad,c,he,_,hz,_⟩:=rep_s (show RepV w _ (.s k rows) _ from hx);exact key ad _ c he (h ad.isNone fun hb=>hz (by simpa using hb))
   .rename_i r n heq;rw[heq]at hx;obtain ⟨m,_,hc⟩:=hx
    cases m with
    | nil=>obtain ⟨h0,ad,he⟩:=hc;exact key ad 0 0 he (h ad.isNone fun _=>h0)
    | blk b base cap=>obtain ⟨he,_⟩:=hc;exact key _ _ _ he (h false fun hb=>by cases hb)
   .rename_i heq;rw[heq]at hx;have he:=rep_nil hx;refine key none 0 0 he ?_;cases neg<;>simpa using h
   .exact h.elim
  .exact h.elim
 .exact h.elim
theorem small_spec {n:Nat} {ups:Ups} (h:small n ups=true) {u:Nat×Blk} (hu:u∈ups):u.1<n:=by
 have:=List.all_eq_true.1 h u hu;simpa using this
theorem updL_notin {ups:Ups} {j:Nat} {h:Nat->Option Blk} (hn:∀u,u∈ups->u.1≠j):updL h ups j=h j:=by
 induction ups generalizing h with
 | nil=>rfl
 | cons u r ih=>exact (ih fun u hu=>hn u (by simp[hu])).trans (Zg _ _ fun e=>hn u (by simp) e.symm)
def dstOk (N:Nat) (ops:Array Oper):Bool:=ops.all fun o=>match o.dst with|some t=>decide (t<N)|none=>true
theorem dstOk_spec {N i:Nat} {o:Oper} (h:dstOk N ops=true) (ho:ops[i]?=some o) {t:Nat} (ht:o.dst=some t):t<N:=by
 have:=Array.all_eq_true_iff_forall_mem.1 h o (Array.mem_of_getElem? ho);simpa[ht] using this
theorem region_text (hΓ:TysOk P Γ) {N:Nat} {a:Act} {nx:Nat} (hn:Now own0 mt w0 ρ0 N En H nx a w) (hN:dstOk N ops=true) {K:(Nat->D)->(Nat->Option Blk)->Nat->Prop} (h:goN P Γ own (dstL ops.toList) K nx ops.toList En H)
 {id:Nat} {Q:Exit->Act->World->Prop} (hQ:∀En' H' nx' a' w',K En' H' nx'->Now own0 mt w0 ρ0 N En' H' nx' a' w'->Q .normal a' w'):(Code.region id ops false).wp P Q a w:=by
 refine wp_region ?_
 have key:∀(rest:List Oper) (i nx:Nat) (En:Nat->D) (H:Nat->Option Blk) (a:Act) (w:World),(∀k,rest[k]?=ops[i+k]?)->Now own0 mt w0 ρ0 N En H nx a w->goN P Γ own (dstL ops.toList) K nx rest En H ->
  wpOps P ops Q (List.range' i rest.length) a w:=by
  intro rest
  induction rest with
  | nil=>intro i nx En H a w _ hn h;exact hQ _ _ _ _ _ h hn
  | cons o r ih =>
   intro i nx En H a w hr hn h;rw[List.length_cons,List.range'_succ,wpOps_cons];have ho:ops[i]?=some o:=by have:=hr 0;simpa using this.symm
   obtain ⟨ρ,hrel⟩:=hn.rel;have hr':∀k,r[k]?=ops[i+1+k]?:=fun k=>by have:=hr (k+1);simpa[Nat.add_assoc,Nat.add_comm 1] using this
   have step:(stepS P Γ own (dstL ops.toList) o En H nx fun d ups=>goN P Γ own (dstL ops.toList) K (nx+64) r (putE En o.dst d) (updL H ups))->wpOp P ops Q i (wpOps P ops Q (List.range' (i+1) r.length)) a w:=by
    intro h;obtain ⟨d,ups,hg,hk⟩:=stepS_gives h;refine step_run hΓ hrel ho (fun t ht=>dstOk_spec hN ho ht) (fun j hj _=>hn.fresh j hj) hg _ Q fun ρ' a' w' hrel'=>?_;refine ih (i+1) (nx+64) _ _ a' w' hr' ⟨⟨ρ',hrel'⟩,fun j hj=>?_⟩ hk;rw[updL_notin fun u hu=>by have:=small_spec hg.1 hu;omega];exact hn.fresh j (by omega)
   simp only[goN]at h
   split at h
   .rename_i t x neg hop hgd;exact nil_run hΓ hrel ho (fun t ht=>dstOk_spec hN ho ht) hgd hop h _ Q fun d a' hk hrel'=>ih (i+1) (nx+64) _ _ a' w hr' ⟨⟨ρ,hrel'⟩,fun j hj=>hn.fresh j (by omega)⟩ hk
   .exact step h
 have:=key ops.toList 0 nx En H a w (fun k=>by simp) hn h;rw[List.range_eq_range'];simpa using this
end
end Eng
end Go.Proofs.YtgenjpingdkmgaaGreatDoor
