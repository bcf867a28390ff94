/- Contracts of functions that this seat's law calls. No condition. -/
import Derived.Test.YtgenjpingdkmgaaGreatDoorG09
set_option maxRecDepth 100000
set_option linter.unusedSimpArgs false
set_option linter.unusedVariables false
namespace Go.Proofs.YtgenjpingdkmgaaGreatDoor
namespace Eng
def eqFsD (P:Program) (R:TypeId->Nat->Option (List (Nat×Nat))) (size base:Nat):List Field->Option (List (Nat×Nat))
 | []=>some []
 | f::fs=>if f.name = "_" then none else match P.info? f.type with
  | some j=>if f.offset+j.size<=size then (match R f.type (base+f.offset),eqFsD P R size base fs with
   | some a,some b=>some (a++b)
   | _,_=>none) else none
  | none=>none
def eqPD (P:Program):Nat->TypeId->Nat->Option (List (Nat×Nat))
 | 0,_,_=>none
 | d+1,t,base=>match P.info? t with
  | none=>none
  | some i=>match P.underlying t with
   | some .bool=>if i.size=1 then some [(base,0)] else none
   | some (.int _)=>if i.size=1 then some [(base,1)] else none
   | some .string=>if i.size=1 then some [(base,2)] else none
   | some (.struct fs)=>if P.stoodInHeld t then none else eqFsD P (eqPD P d) i.size base fs.toList
   | _=>none
def eqLOf (P:Program) (t:Nat) (d:TypeDesc):Option (List (Nat×Nat)) :=
 if P.stoodInHeld t || P.eqGuardType P.depth t then none else
 match d,P.info? t with
 | .struct fs,some i=>eqFsD P (eqPD P 4) i.size 0 fs.toList
 | _,_=>none
theorem eqFsD_ok {P:Program} {R:TypeId->Nat->Option (List (Nat×Nat))} {R':TypeId->Nat->List (Nat×Nat)->Prop} (hR:∀t b l,R t b=some l->R' t b l) {size base:Nat}:∀ {fs:List Field} {l:List (Nat×Nat)},eqFsD P R size base fs=some l->EqFs P R' size base fs l
 | [],l,h=>by cases h;rfl
 | f::fs,l,h=>by
  simp only[eqFsD]at h
  split at h
  .cases h
  .rename_i hn
   split at h
   .rename_i j hj
    split at h
    .rename_i hs
     split at h
     .rename_i a b ha hb;cases h;exact ⟨hn,a,b,rfl,hR _ _ _ ha,⟨j,hj,hs⟩,eqFsD_ok hR hb⟩
     .cases h
    .cases h
   .cases h
theorem eqPD_ok {P:Program}:∀(d:Nat) {t:TypeId} {base:Nat} {l:List (Nat×Nat)},eqPD P d t base=some l->EqP P d t base l
 | 0,_,_,_,h=>by cases h
 | d+1,t,base,l,h=>by
  simp only[eqPD]at h
  split at h
  .cases h
  .rename_i i hi
   split at h
   .rename_i hu;split at h
    .rename_i h1;cases h;exact .inl ⟨i,hi,h1,.inl ⟨rfl,hu⟩⟩
    .cases h
   .rename_i k hu;split at h
    .rename_i h1;cases h;exact .inl ⟨i,hi,h1,.inr (.inl ⟨rfl,k,hu⟩)⟩
    .cases h
   .rename_i hu;split at h
    .rename_i h1;cases h;exact .inl ⟨i,hi,h1,.inr (.inr ⟨rfl,hu⟩)⟩
    .cases h
   .rename_i fs hu;split at h
    .cases h
    .rename_i hst;exact .inr ⟨i,fs,hi,by simpa using hst,hu,eqFsD_ok (R':=EqP P d) (fun t b l h=>eqPD_ok d h) h⟩
   .cases h
theorem eqLOf_ok {P:Program} {t:Nat} {d:TypeDesc} (hd:P.underlying t=some d) {l:List (Nat×Nat)} (h:eqLOf P t d=some l):EqOk P t l:=by
 unfold eqLOf at h
 split at h
 .cases h
 .rename_i hc;simp only[Bool.or_eq_true,not_or,Bool.not_eq_true]at hc
  split at h
  .rename_i fs i hi;exact ⟨hc.2,hc.1,4,fs,i,by omega,hd,eqFsD_ok (R':=EqP P 4) (fun t b l h=>eqPD_ok 4 h) h⟩
  .cases h
def tyOf (P:Program) (t:Nat):Option Ty :=
 match P.underlying t,P.info? t with
 | some d,some i=>match i.zero with
  | some z=>if okVal z && z.cells.size == i.size && (isAggD d || i.size == 1) then some ⟨d,z,i.size,i.bytes,eqLOf P t d⟩ else none
  | none=>none
 | _,_=>none
theorem tyOf_ok (P:Program):TysOk P (tyOf P):=by
 intro t ty h;unfold tyOf at h
 split at h
 .rename_i d i hd hi
  split at h
  .rename_i z hz
   split at h
   .rename_i hc;simp only[Bool.and_eq_true,beq_iff_eq,Bool.or_eq_true]at hc;cases h
    exact ⟨hd,⟨i,hi,hz,rfl,rfl⟩,hc.1.1,hc.1.2,fun ha=>by
     rcases hc.2 with h|h
     .rw[ha]at h;cases h
     .exact h,fun l hl=>eqLOf_ok hd hl⟩
   .cases h
  .cases h
 .cases h
end Eng
end Go.Proofs.YtgenjpingdkmgaaGreatDoor
namespace Go.Proofs.YtgenjpingdkmgaaGreatDoor
namespace Eng
theorem upd_app {α:Type} (f:Nat->α) (i:Nat) (v:α) (j:Nat):upd f i v j=if j=i then v else f j:=rfl
theorem q_sat {P:Program} {α:Type} (Q:α->Prop):(∀a,(Tr.ret a).sat P Q=Q a)/\((Tr.fail:Tr α).sat P Q=False)/\(∀p k,(Tr.ask p k).sat P Q=(p/\k.sat P Q)) /\
 (∀b t e,(Tr.ite b t e:Tr α).sat P Q=((b=true->t.sat P Q)/\(b=false->e.sat P Q))):=⟨fun _=>rfl,rfl,fun _ _=>rfl,fun _ _ _=>rfl⟩
theorem q_need {α:Type} (q:Bool) (k:D->Tr α):(∀e,need q (.e e) k=k (.e e))/\(∀es,need q (.t es) k=k (.t es))/\(∀b o,need q (.p b o) k=k (.p b o))/\(∀cs,need q (.q cs) k=k (.q cs)) /\
 (∀r a i o,need q (.w r a i o) k=k (.w r a i o))/\(∀r a i o,need q (.u r a i o) k=k (.u r a i o))/\(∀b d,need q (.g b d) k=.ask (q=true->b=true) (k d))/\need q .top k=k .top :=
 ⟨fun _=>rfl,fun _=>rfl,fun _ _=>rfl,fun _=>rfl,fun _ _ _ _=>rfl,fun _ _ _ _=>rfl,fun _ _=>rfl,rfl⟩
theorem q_needO {α:Type} (q:Bool) (k:Option D->Tr α):needO q none k=k none/\∀d,needO q (some d) k=need q d fun d=>k (some d):=⟨rfl,fun _=>rfl⟩
theorem q_evO (En:Nat->D):(∀t,evO En (.tmp t)=En t)/\(∀k n,evO En (.const (.int k n))=.e (.c (.v (.x (.int k n)))))/\(∀b,evO En (.const (.bool b))=.e (.c (.v (.x (.bool b))))) /\
 (∀s,evO En (.const (.string s))=.e (.c (.v (.x (.string s)))))/\(∀a n c,evO En (.const (.slice a n c))=.e (.c (.v (.x (.slice a n c))))):=⟨fun _=>rfl,fun _ _=>rfl,fun _=>rfl,fun _=>rfl,fun _ _ _=>rfl⟩
def mvK (d:D):Tr (D×Ups):=.ret (d,[])
def bxK (nx:Nat):D->Tr (D×Ups)
 | .e e=>.ret (.p nx 0,[(nx,.loc e.cells)])
 | _=>.fail
def n2 (q:Bool) (d e:D) (k:D->D->Tr (D×Ups)):Tr (D×Ups):=need q d fun d=>need q e fun e=>k d e
def n1 (q:Bool) (d:D) (k:D->Tr (D×Ups)):Tr (D×Ups):=need q d k
def nL (q:Bool) (ds:List D) (acc:List D) (k:List D->Tr (D×Ups)):Tr (D×Ups):=needL q ds fun r=>k (acc++r)
def wT (ty:Option Ty) (k:Ty->Tr (D×Ups)):Tr (D×Ups) :=
 match ty with
 | some ty=>k ty
 | none=>.fail
def ldT (H:Nat->Option Blk) (q:Bool) (d:D) (ty:Ty):Tr (D×Ups):=n1 q d (loadE ty H q)
def alT (nx:Nat) (ty:Ty):Tr (D×Ups):=.ret (.p nx 0,[(nx,.loc (zeroC ty))])
def stT (H:Nat->Option Blk) (q:Bool) (d e:D) (ty:Ty):Tr (D×Ups):=n2 q d e (storeE ty H)
def pkK (q:Bool) (a b:Operand) (ea eb:D) (d:D):Tr (D×Ups):=pickE q d a b ea eb
def evP (En:Nat->D):List (Nat×Operand)->List D
 | []=>[]
 | p::r=>evO En p.2::evP En r
def zipP:List (Nat×Operand)->List D->List (Nat×D)
 | p::ps,d::ds=>(p.1,d)::zipP ps ds
 | _,_=>[]
def bdK (Γ:Nat->Option Ty) (ty:Ty) (ps:List (Nat×Operand)) (ds:List D):Tr (D×Ups):=buildE Γ ty (zipP ps ds)
def bsK (Γ:Nat->Option Ty) (ty:Ty) (H:Nat->Option Blk) (n nx:Nat) (ps:List (Nat×Operand)) (ds:List D):Tr (D×Ups):=buildSliceE Γ ty H n nx (zipP ps ds)
def bdT (Γ:Nat->Option Ty) (q:Bool) (ps:List (Nat×Operand)) (ds:List D) (ty:Ty):Tr (D×Ups):=nL q ds [] (bdK Γ ty ps)
def bsT (Γ:Nat->Option Ty) (H:Nat->Option Blk) (n nx:Nat) (q:Bool) (ps:List (Nat×Operand)) (ds:List D) (ty:Ty):Tr (D×Ups):=nL q ds [] (bsK Γ ty H n nx ps)
def faT (Γ:Nat->Option Ty) (f:Nat) (q:Bool) (d:D) (ty:Ty):Tr (D×Ups):=n1 q d (fieldAddrE Γ ty f)
def feT (Γ:Nat->Option Ty) (f:Nat) (q:Bool) (d:D) (ty:Ty):Tr (D×Ups):=n1 q d (fieldE Γ ty f q)
def iaT (Γ:Nat->Option Ty) (q:Bool) (d e:D) (ty:Ty):Tr (D×Ups):=n2 q d e (indexAddrE Γ ty q)
def ieT (Γ:Nat->Option Ty) (q:Bool) (d e:D) (ty:Ty):Tr (D×Ups):=n2 q d e (indexE Γ ty q)
def slK (vw:Bool) (Γ:Nat->Option Ty) (ty:Ty) (q:Bool) (H:Nat->Option Blk) (nx:Nat) (d:D) (l h m:Option D):Tr (D×Ups):=needO q l fun l=>needO q h fun h=>needO q m fun m=>cutE vw Γ ty q H nx d l h m
def slL (vw:Bool) (Γ:Nat->Option Ty) (ty:Ty) (q:Bool) (H:Nat->Option Blk) (nx:Nat) (l h m:Option D) (d:D):Tr (D×Ups):=slK vw Γ ty q H nx d l h m
def slT (vw:Bool) (Γ:Nat->Option Ty) (q:Bool) (H:Nat->Option Blk) (nx:Nat) (d:D) (l h m:Option D) (ty:Ty):Tr (D×Ups):=n1 q d (slL vw Γ ty q H nx l h m)
theorem nL_eq (q:Bool) (d:D) (r acc:List D) (k:List D->Tr (D×Ups)):nL q (d::r) acc k=need q d fun d=>nL q r (acc++[d]) k:=by
 simp[nL,needL]
def nLk (q:Bool) (r acc:List D) (k:List D->Tr (D×Ups)) (d:D):Tr (D×Ups):=nL q r (acc++[d]) k
def n2k (q:Bool) (e:D) (k:D->D->Tr (D×Ups)) (d:D):Tr (D×Ups):=n1 q e (k d)
theorem q_n (q:Bool):(∀d k,n1 q d k=need q d k)/\(∀d e k,n2 q d e k=need q d (n2k q e k))/\(∀e k d,n2k q e k d=need q e (k d)) /\
 (∀acc k,nL q [] acc k=k acc)/\(∀d r acc k,nL q (d::r) acc k=need q d (nLk q r acc k))/\(∀r acc k d,nLk q r acc k d=nL q r (acc++[d]) k) :=
 ⟨fun _ _=>rfl,fun _ _ _=>rfl,fun _ _ _=>rfl,fun _ _=>by simp[nL,needL],fun _ _ _ _=>nL_eq _ _ _ _ _,fun _ _ _ _=>rfl⟩
theorem q_w:(∀ty k,wT (some ty) k=k ty):=fun _ _=>rfl
theorem q_K:(∀d,mvK d=.ret (d,[]))/\(∀nx e,bxK nx (.e e)=.ret (.p nx 0,[(nx,.loc e.cells)]))/\(∀H q d ty,ldT H q d ty=n1 q d (loadE ty H q))/\(∀nx ty,alT nx ty=.ret (.p nx 0,[(nx,.loc (zeroC ty))])) /\
 (∀H q d e ty,stT H q d e ty=n2 q d e (storeE ty H))/\(∀q a b ea eb d,pkK q a b ea eb d=pickE q d a b ea eb)/\(∀En,evP En []=[])/\(∀En p r,evP En (p::r)=evO En p.2::evP En r) /\
 (∀ds,zipP [] ds=[])/\(∀p ps d ds,zipP (p::ps) (d::ds)=(p.1,d)::zipP ps ds)/\(∀ Γ ty ps ds,bdK Γ ty ps ds=buildE Γ ty (zipP ps ds))/\(∀ Γ ty H n nx ps ds,bsK Γ ty H n nx ps ds=buildSliceE Γ ty H n nx (zipP ps ds)) /\
 (∀ Γ q ps ds ty,bdT Γ q ps ds ty=nL q ds [] (bdK Γ ty ps))/\(∀ Γ H n nx q ps ds ty,bsT Γ H n nx q ps ds ty=nL q ds [] (bsK Γ ty H n nx ps)) /\
 (∀ Γ f q d ty,faT Γ f q d ty=n1 q d (fieldAddrE Γ ty f))/\(∀ Γ f q d ty,feT Γ f q d ty=n1 q d (fieldE Γ ty f q))/\(∀ Γ q d e ty,iaT Γ q d e ty=n2 q d e (indexAddrE Γ ty q))/\(∀ Γ q d e ty,ieT Γ q d e ty=n2 q d e (indexE Γ ty q)) /\
 (∀vw Γ q H nx d l h m ty,slT vw Γ q H nx d l h m ty=n1 q d (slL vw Γ ty q H nx l h m))/\(∀vw Γ ty q H nx l h m d,slL vw Γ ty q H nx l h m d=needO q l fun l=>needO q h fun h=>needO q m fun m=>cutE vw Γ ty q H nx d l h m) :=
 ⟨fun _=>rfl,fun _ _=>rfl,fun _ _ _ _=>rfl,fun _ _=>rfl,fun _ _ _ _ _=>rfl,fun _ _ _ _ _ _=>rfl,fun _=>rfl,fun _ _ _=>rfl,fun ds=>rfl,fun _ _ _ _=>rfl,fun _ _ _ _=>rfl,fun _ _ _ _ _ _ _=>rfl,
  fun _ _ _ _ _=>rfl,fun _ _ _ _ _ _ _ _=>rfl,fun _ _ _ _ _=>rfl,fun _ _ _ _ _=>rfl,fun _ _ _ _ _=>rfl,fun _ _ _ _ _=>rfl,fun _ _ _ _ _ _ _ _ _ _=>rfl,fun _ _ _ _ _ _ _ _ _ _=>rfl⟩
theorem evP_map (En:Nat->D):∀ps:List (Nat×Operand),(ps.map fun p=>evO En p.2)=evP En ps
 | []=>rfl
 | _::r=>by simp only[List.map_cons,evP,evP_map En r]
theorem zipP_zip:∀(ps:List (Nat×Operand)) (ds:List D),(ps.map (·.1)).zip ds=zipP ps ds
 | [],ds=>by simp[zipP]
 | _::_,[]=>rfl
 | p::ps,d::ds=>by simp only[List.map_cons,List.zip_cons_cons,zipP,zipP_zip ps ds]
section ops
variable (Γ:Nat->Option Ty) (own:Nat->Bool) (En:Nat->D) (H:Nat->Option Blk) (nx:Nat) (q:Bool)
def clK (b:Bool) (f:Nat) (ds:List D):Tr (D×Ups):=callE b H nx q f ds
def biK (b:Builtin) (ts:Array TypeId) (ds:List D):Tr (D×Ups):=builtinE Γ b ts H nx ds
theorem q_op:(∀x,opE Γ own (.move x) En H nx q=n1 q (evO En x) mvK)/\(∀x,opE Γ own (.assign x) En H nx q=n1 q (evO En x) mvK) /\
 (∀c a b,opE Γ own (.pick c a b) En H nx q=n1 q (evO En c) (pkK q a b (evO En a) (evO En b))) /\
 (∀t,opE Γ own (.alloc t) En H nx q=wT (Γ t) (alT nx)) /\
 (∀t x,opE Γ own (.box t x) En H nx q=n1 q (evO En x) (bxK nx)) /\
 (∀t ps,opE Γ own (.build t ps) En H nx q=wT (Γ t) (bdT Γ q ps.toList (evP En ps.toList))) /\
 (∀t n ps,opE Γ own (.buildSlice t n ps) En H nx q=wT (Γ t) (bsT Γ H n nx q ps.toList (evP En ps.toList))) /\
 (∀t x,opE Γ own (.load t x) En H nx q=wT (Γ t) (ldT H q (evO En x))) /\
 (∀t x y,opE Γ own (.store t x y) En H nx q=wT (Γ t) (stT H q (evO En x) (evO En y))) /\
 (∀op t x y t2,opE Γ own (.binOp op t x y t2) En H nx q=n2 q (evO En x) (evO En y) (binNE Γ q op t y)) /\
 (∀op t x,opE Γ own (.unOp op t x) En H nx q=n1 q (evO En x) (unQ q op)) /\
 (∀s t x,opE Γ own (.convert s t x) En H nx q=n1 q (evO En x) (convHE Γ H nx s t)) /\
 (∀t x lo hi mx,opE Γ own (.slice t x lo hi mx) En H nx q=wT (Γ t) (slT (own 0) Γ q H nx (evO En x) (lo.map (evO En)) (hi.map (evO En)) (mx.map (evO En)))) /\
 (∀t x f,opE Γ own (.fieldAddr t x f) En H nx q=wT (Γ t) (faT Γ f q (evO En x))) /\
 (∀t x f,opE Γ own (.field t x f) En H nx q=wT (Γ t) (feT Γ f q (evO En x))) /\
 (∀t x i,opE Γ own (.indexAddr t x i) En H nx q=wT (Γ t) (iaT Γ q (evO En x) (evO En i))) /\
 (∀t x i,opE Γ own (.index t x i) En H nx q=wT (Γ t) (ieT Γ q (evO En x) (evO En i))) /\
 (∀x i,opE Γ own (.extract x i) En H nx q=n1 q (evO En x) (extractE i)) /\
 (∀f as ts,opE Γ own (.call ⟨.value (.func f),as,ts⟩) En H nx q=nL q (as.toList.map (evO En)) [] (clK H nx q (own f) f)) /\
 (∀b as ts,opE Γ own (.call ⟨.builtin b,as,ts⟩) En H nx q=nL q (as.toList.map (evO En)) [] (biK Γ H nx b ts)):=by
 refine ⟨fun _=>rfl,fun _=>rfl,fun _ _ _=>rfl,fun _=>rfl,fun _ _=>?_,fun t _=>?_,fun t _ _=>?_,fun _ _=>rfl,fun _ _ _=>rfl,fun _ _ _ _ _=>rfl,fun _ _ _=>rfl,fun _ _ _=>rfl,
  fun _ _ _ _ _=>rfl,fun _ _ _=>rfl,fun _ _ _=>rfl,fun _ _ _=>rfl,fun _ _ _=>rfl,fun _ _=>rfl,fun _ _ _=>?_,fun _ _ _=>?_⟩
 .simp only[opE,n1];congr 1
 .simp only[opE,withTy,wT]
  cases Γ t with
  | some ty=>simp only[bdT,nL,bdK,List.nil_append,evP_map,zipP_zip]
  | none=>rfl
 .simp only[opE,withTy,wT]
  cases Γ t with
  | some ty=>simp only[bsT,nL,bsK,List.nil_append,evP_map,zipP_zip]
  | none=>rfl
 .simp only[opE,nL,clK,List.nil_append]
 .simp only[opE,nL,biK,List.nil_append]
end ops
def mkT (Γ:Nat->Option Ty) (q:Bool) (nx:Nat) (d e:D) (ty:Ty):Tr (D×Ups):=n2 q d e (makeSliceE Γ ty nx)
theorem q_mkS (Γ:Nat->Option Ty) (own:Nat->Bool) (En:Nat->D) (H:Nat->Option Blk) (nx:Nat) (q:Bool) (t:TypeId) (l c:Operand):opE Γ own (.makeSlice t l c) En H nx q=wT (Γ t) (mkT Γ q nx (evO En l) (evO En c)):=rfl
theorem q_mkT (Γ:Nat->Option Ty) (q:Bool) (nx:Nat) (d e:D) (ty:Ty):mkT Γ q nx d e ty=n2 q d e (makeSliceE Γ ty nx):=rfl
def ncK:D->Tr (D×Ups)
 | .p b off=>.ret (.p b off,[])
 | .q cs=>.ret (.q cs,[])
 | .w r k i off=>.ret (.w r k i off,[])
 | _=>.fail
theorem q_nil (Γ:Nat->Option Ty) (own:Nat->Bool) (En:Nat->D) (H:Nat->Option Blk) (nx:Nat) (q:Bool) (x:Operand):opE Γ own (.nilCheck x) En H nx q=n1 q (evO En x) ncK:=by
 simp only[opE,n1];congr 1
theorem q_ncK:(∀b o,ncK (.p b o)=.ret (.p b o,[]))/\(∀cs,ncK (.q cs)=.ret (.q cs,[]))/\(∀r k i o,ncK (.w r k i o)=.ret (.w r k i o,[])):=⟨fun _ _=>rfl,fun _=>rfl,fun _ _ _ _=>rfl⟩
def bNn (op:BinOp) (c:Bool):Option Ty->Tr (D×Ups)
 | some ty=>if c && isIfaceD ty.desc then (match op with
  | .eql=>.ret (.x (.bool true),[])
  | .neq=>.ret (.x (.bool false),[])
  | _=>.fail) else .fail
 | none=>.fail
theorem q_bN (Γ:Nat->Option Ty) (q:Bool) (op:BinOp) (t:TypeId) (Y:Operand):(∀k n y,binNE Γ q op t Y (.e (.c (.v (.x (.int k n))))) y=binAE Γ q op t (.e (.c (.v (.x (.int k n))))) y)/\(∀b y,binNE Γ q op t Y (.e (.c (.v (.x (.bool b))))) y=binAE Γ q op t (.e (.c (.v (.x (.bool b))))) y) /\
 (∀s y,binNE Γ q op t Y (.e (.c (.v (.x (.string s))))) y=binAE Γ q op t (.e (.c (.v (.x (.string s))))) y)/\(∀cs y,binNE Γ q op t Y (.e (.a cs)) y=binAE Γ q op t (.e (.a cs)) y) /\
 binNE Γ q op t Y (.e (.c (.v (.x .nilIface)))) (.e (.c (.v (.x .nilIface))))=bNn op (constNil Y) (Γ t):=⟨fun _ _ _=>rfl,fun _ _=>rfl,fun _ _=>rfl,fun _ _=>rfl,by unfold binNE bNn;cases Γ t<;>rfl⟩
theorem q_bNn (c:Bool) (ty:Ty):bNn .eql c (some ty)=(if c && isIfaceD ty.desc then .ret (.e (.c (.v (.x (.bool true)))),[]) else .fail)/\bNn .neq c (some ty)=(if c && isIfaceD ty.desc then .ret (.e (.c (.v (.x (.bool false)))),[]) else .fail):=⟨rfl,rfl⟩
theorem q_cN (En:Nat->D):constNil (.const .nilIface)=true/\evO En (.const .nilIface)=.e (.c (.v (.x .nilIface))):=⟨rfl,rfl⟩
def bAg (op:BinOp) (xs ys:List C):Option Ty->Tr (D×Ups)
 | some ty=>eqAggE op ty.eqL xs ys
 | none=>.fail
theorem q_bA (Γ:Nat->Option Ty) (q:Bool) (op:BinOp) (t:TypeId):(∀c y,binAE Γ q op t (.e (.c c)) y=binE Γ q op t (.e (.c c)) y)/\(∀xs ys,binAE Γ q op t (.e (.a xs)) (.e (.a ys))=bAg op xs ys (Γ t)):=⟨fun _ _=>rfl,fun xs ys=>by unfold binAE bAg;cases Γ t<;>rfl⟩
theorem q_bAg:(∀xs ys ty,bAg .eql xs ys (some ty)=eqAggE .eql ty.eqL xs ys)/\(∀xs ys ty,bAg .neq xs ys (some ty)=eqAggE .neq ty.eqL xs ys)/\(∀l xs ys,eqAggE .eql (some l) xs ys=.ask (okAll l xs ys) (.ret (.x (.bool (eqAll l xs ys)),[]))) /\
 (∀l xs ys,eqAggE .neq (some l) xs ys=.ask (okAll l xs ys) (.ret (.x (.bool (!eqAll l xs ys)),[]))):=⟨fun _ _ _=>rfl,fun _ _ _=>rfl,fun _ _ _=>rfl,fun _ _ _=>rfl⟩
theorem q_eqs:(∀xs ys,eqAll [] xs ys=true)/\(∀o n l xs ys,eqAll ((o,n)::l) xs ys=(eqC (xs.getD o default) (ys.getD o default) && eqAll l xs ys))/\(∀xs ys,okAll [] xs ys=True) /\
 (∀o n l xs ys,okAll ((o,n)::l) xs ys=((o<xs.length/\o<ys.length/\okEq n (xs.getD o default) (ys.getD o default))/\okAll l xs ys)) /\
 (∀k a k' b,eqC (.v (.x (.int k a))) (.v (.x (.int k' b)))=(a == b))/\(∀a b,eqC (.v (.x (.bool a))) (.v (.x (.bool b)))=(a == b))/\(∀a b,eqC (.v (.x (.string a))) (.v (.x (.string b)))=(a.data.toList == b.data.toList)) /\
 (∀a b,okEq 0 (.v (.x (.bool a))) (.v (.x (.bool b)))=True)/\(∀k a k' b,okEq 1 (.v (.x (.int k a))) (.v (.x (.int k' b)))=(k=k'))/\(∀a b,okEq 2 (.v (.x (.string a))) (.v (.x (.string b)))=True) :=
 ⟨fun _ _=>rfl,fun _ _ _ _ _=>rfl,fun _ _=>rfl,fun _ _ _ _ _=>rfl,fun _ _ _ _=>rfl,fun _ _=>rfl,fun _ _=>rfl,fun _ _=>rfl,fun _ _ _ _=>rfl,fun _ _=>rfl⟩
def mfK (H:Nat->Option Blk) (fn:Fn) (first:Array Operand) (ds:List D):Tr (D×Ups):=makeFuncE H fn first ds
def cvN (own:Nat->Bool) (H:Nat->Option Blk) (nx:Nat) (q:Bool) (ds:List D) (d:D):Tr (D×Ups):=callvE own H nx q d ds
def cvK (own:Nat->Bool) (H:Nat->Option Blk) (nx:Nat) (q:Bool) (d:D) (ds:List D):Tr (D×Ups):=need q d (cvN own H nx q ds)
theorem q_opf (Γ:Nat->Option Ty) (own:Nat->Bool) (En:Nat->D) (H:Nat->Option Blk) (nx:Nat) (q:Bool):(∀fn first caps,opE Γ own (.makeFunc fn first caps) En H nx q=nL q (caps.toList.map (evO En)) [] (mfK H fn first)) /\
 (∀t as ts,opE Γ own (.call ⟨.value (.tmp t),as,ts⟩) En H nx q=nL q (as.toList.map (evO En)) [] (cvK own H nx q (En t))):=by
 refine ⟨fun _ _ _=>?_,fun _ _ _=>?_⟩
 .simp only[opE,nL,mfK,List.nil_append]
 .simp only[opE,nL,cvK,cvN,List.nil_append];rfl
def mfR (f:Nat):Option (List (List V)×Ups)->Tr (D×Ups)
 | some (vss,u)=>.ret (.e (.c (.v (.f f vss))),u)
 | none=>.fail
def capsD (vs:List V) (b:Nat):Option (List (List V)×Ups)->Option (List (List V)×Ups)
 | some (vss,u)=>some (vs::vss,(b,.ice vs.length [vs])::u)
 | none=>none
def capsQ (vs:List V):Option (List (List V)×Ups)->Option (List (List V)×Ups)
 | some (vss,u)=>some (vs::vss,u)
 | none=>none
def capsC (b:Nat) (h:Nat->Option Blk) (r:List D):Option (List V)->Option (List (List V)×Ups)
 | some vs=>capsD vs b (capsE (upd h b (some (.ice vs.length [vs]))) r)
 | none=>none
def capsB (b:Nat) (h:Nat->Option Blk) (r:List D):Option Blk->Option (List (List V)×Ups)
 | some (.loc cs)=>capsC b h r (allV cs)
 | some (.ice _ [vs])=>capsQ vs (capsE h r)
 | _=>none
theorem q_mf (H:Nat->Option Blk):(∀f ds,mfK H (.func f) #[] ds=mfR f (capsE H ds))/\capsE H []=some ([],[])/\(∀b r,capsE H (.p b 0::r)=capsB b H r (H b))/\(∀cs r,capsE H (.q cs::r)=capsQ cs (capsE H r)):=by
 refine ⟨fun f ds=>?_,rfl,fun b r=>?_,fun cs r=>?_⟩
 .simp only[mfK,makeFuncE];rw[if_pos (by rfl)];cases capsE H ds<;>rfl
 .simp only[capsE];unfold capsB
  split
  .unfold capsC
   split
   .unfold capsD
    split<;>simp_all
   .simp_all
  .unfold capsQ;split<;>simp_all
  .rename_i h1 h2
   split
   .rename_i h;exact (h1 _ h).elim
   .rename_i h;exact (h2 _ _ h).elim
   .rfl
 .simp only[capsE];unfold capsQ
  split<;>simp_all
theorem q_caps:(∀f vss u,mfR f (some (vss,u))=.ret (.e (.c (.v (.f f vss))),u))/\(∀vs b vss u,capsD vs b (some (vss,u))=some (vs::vss,(b,.ice vs.length [vs])::u))/\(∀vs vss u,capsQ vs (some (vss,u))=some (vs::vss,u)) /\
 (∀b h r vs,capsC b h r (some vs)=capsD vs b (capsE (upd h b (some (.ice vs.length [vs]))) r))/\(∀b h r cs,capsB b h r (some (.loc cs))=capsC b h r (allV cs))/\(∀b h r k vs,capsB b h r (some (.ice k [vs]))=capsQ vs (capsE h r))/\allV []=some []/\(∀a r,allV (.v a::r)=(allV r).map (a::·)) :=
 ⟨fun _ _ _=>rfl,fun _ _ _ _=>rfl,fun _ _ _=>rfl,fun _ _ _ _=>rfl,fun _ _ _ _=>rfl,fun _ _ _ _ _=>rfl,rfl,fun _ _=>rfl⟩
theorem q_cv (own:Nat->Bool) (H:Nat->Option Blk) (nx:Nat) (q:Bool):(∀d ds,cvK own H nx q d ds=need q d (cvN own H nx q ds))/\(∀f caps ds,cvN own H nx q ds (.e (.c (.v (.f f caps))))=callE (own f) H nx q f (ds++caps.map .q)) /\
 (∀f ds,cvN own H nx q ds (.e (.c (.v (.x (.func (.func f) #[] #[])))))=callE (own f) H nx q f ds):=⟨fun _ _=>rfl,fun _ _ _=>rfl,fun _ _=>rfl⟩
theorem q_cut (Γ:Nat->Option Ty) (ty:Ty) (q:Bool) (H:Nat->Option Blk) (nx:Nat) (x:D) (l h m:Option D):cutE true Γ ty q H nx x l h m=viewFE Γ ty q H nx x l h m/\cutE false Γ ty q H nx x l h m=sliceE Γ ty q H nx x l h m:=⟨rfl,rfl⟩
theorem q_app (Γ:Nat->Option Ty) (ts:Array TypeId) (H:Nat->Option Blk) (nx:Nat):(∀s cs,appE Γ ts H nx s (.e (.a cs))=appendE Γ ts H nx s (.e (.a cs)))/\(∀s r n,appE Γ ts H nx s (.e (.c (.o r n)))=appendE Γ ts H nx s (.e (.c (.o r n))))/\(∀s k rows,appE Γ ts H nx s (.e (.c (.v (.s k rows))))=appendE Γ ts H nx s (.e (.c (.v (.s k rows))))) /\
 (∀s b,appE Γ ts H nx s (.e (.c (.v (.x (.string b)))))=appendE Γ ts H nx s (.e (.c (.v (.x (.string b))))))/\(∀s a n c,appE Γ ts H nx s (.e (.c (.v (.x (.slice a n c)))))=appendE Γ ts H nx s (.e (.c (.v (.x (.slice a n c))))))/\(∀s k n,appE Γ ts H nx s (.e (.c (.v (.x (.int k n)))))=appendFE Γ ts H nx s n) /\
 (∀r n r' k off m,appE Γ ts H nx (.e (.c (.o r n))) (.u r' k off m)=appendUE Γ ts H r n r' k off m):=⟨fun _ _=>rfl,fun _ _ _=>rfl,fun _ _ _=>rfl,fun _ _=>rfl,fun _ _ _ _=>rfl,fun _ _ _=>rfl,fun _ _ _ _ _ _=>rfl⟩
theorem q_cl (H:Nat->Option Blk) (nx:Nat) (q b:Bool) (f:Nat) (ds:List D):clK H nx q b f ds=callE b H nx q f ds:=rfl
theorem q_bi (Γ:Nat->Option Ty) (H:Nat->Option Blk) (nx:Nat) (b:Builtin) (ts:Array TypeId) (ds:List D):biK Γ H nx b ts ds=builtinE Γ b ts H nx ds:=rfl
section names
variable (P:Program) (Γ:Nat->Option Ty) (own:Nat->Bool) (ds:List (Option Tmp))
def contN (K:(Nat->D)->(Nat->Option Blk)->Nat->Prop) (nx:Nat) (r:List Oper) (dst:Option Tmp) (En:Nat->D) (H:Nat->Option Blk) (x:D×Ups):Prop :=
 small (nx+64) x.2=true/\goN P Γ own ds K (nx+64) r (putE En dst x.1) (updL H x.2)
def contG (K:(Nat->D)->(Nat->Option Blk)->Nat->Prop) (nx:Nat) (r:List Oper) (dst:Option Tmp) (En:Nat->D) (H:Nat->Option Blk) (q:Bool) (x:D×Ups):Prop :=
 match x.2 with
 | []=>goN P Γ own ds K (nx+64) r (putE En dst (.g q x.1)) H
 | u::us=>(q=true->small (nx+64) (u::us)=true/\goN P Γ own ds K (nx+64) r (putE En dst x.1) (updL H (u::us)))/\(q=false->goN P Γ own ds K (nx+64) r (putE En dst .top) H)
def stepGd (K:(Nat->D)->(Nat->Option Blk)->Nat->Prop) (nx:Nat) (r:List Oper) (dst:Option Tmp) (op:Op) (En:Nat->D) (H:Nat->Option Blk) (o:Option Bool):Prop :=
 match o with
 | none=>False
 | some q=>(opE Γ own op En H nx q).sat P (contG P Γ own ds K nx r dst En H q)
def contNil (K:(Nat->D)->(Nat->Option Blk)->Nat->Prop) (nx:Nat) (r:List Oper) (dst:Option Tmp) (En:Nat->D) (H:Nat->Option Blk) (d:D):Prop :=
 goN P Γ own ds K (nx+64) r (putE En dst d) H
def stepU (K:(Nat->D)->(Nat->Option Blk)->Nat->Prop) (nx:Nat) (r:List Oper) (dst:Option Tmp) (op:Op) (En:Nat->D) (H:Nat->Option Blk) (o:Option (TypeId×Operand×Bool)):Prop :=
 match o with
 | none=>(opE Γ own op En H nx true).sat P (contN P Γ own ds K nx r dst En H)
 | some y=>nilS Γ y.1 (evO En y.2.1) y.2.2 (contNil P Γ own ds K nx r dst En H)
theorem q_goN (K:(Nat->D)->(Nat->Option Blk)->Nat->Prop) (nx:Nat) (r:List Oper) (dst:Option Tmp) (En:Nat->D) (H:Nat->Option Blk) :
 (∀op t ps af g,goN P Γ own ds K nx (⟨dst,op,t,ps,af,some g⟩::r) En H=stepGd P Γ own ds K nx r dst op En H (guardB ds En g)) /\
 (∀op t ps af,goN P Γ own ds K nx (⟨dst,op,t,ps,af,none⟩::r) En H=stepU P Γ own ds K nx r dst op En H (isNilOp op)) /\
 (∀op q,stepGd P Γ own ds K nx r dst op En H (some q)=(opE Γ own op En H nx q).sat P (contG P Γ own ds K nx r dst En H q)) /\
 (∀op,stepU P Γ own ds K nx r dst op En H none=(opE Γ own op En H nx true).sat P (contN P Γ own ds K nx r dst En H)) /\
 (∀op t x neg,stepU P Γ own ds K nx r dst op En H (some (t,x,neg))=nilS Γ t (evO En x) neg (contNil P Γ own ds K nx r dst En H)) /\
 (∀d u,contN P Γ own ds K nx r dst En H (d,u)=(small (nx+64) u=true/\goN P Γ own ds K (nx+64) r (putE En dst d) (updL H u))) /\
 (∀q d,contG P Γ own ds K nx r dst En H q (d,[])=goN P Γ own ds K (nx+64) r (putE En dst (.g q d)) H) /\
 (∀q d u us,contG P Γ own ds K nx r dst En H q (d,u::us)=((q=true->small (nx+64) (u::us)=true/\goN P Γ own ds K (nx+64) r (putE En dst d) (updL H (u::us)))/\(q=false->goN P Γ own ds K (nx+64) r (putE En dst .top) H))) /\
 (∀d,contNil P Γ own ds K nx r dst En H d=goN P Γ own ds K (nx+64) r (putE En dst d) H):=by
 refine ⟨fun op t ps af g=>?_,fun op t ps af=>?_,fun _ _=>rfl,fun _=>rfl,fun _ _ _ _=>rfl,fun _ _=>rfl,fun _ _=>rfl,fun _ _ _ _=>rfl,fun _=>rfl⟩
 .have:goN P Γ own ds K nx (⟨dst,op,t,ps,af,some g⟩::r) En H=stepS P Γ own ds ⟨dst,op,t,ps,af,some g⟩ En H nx fun d ups=>goN P Γ own ds K (nx+64) r (putE En dst d) (updL H ups):=by
   simp only[goN]
   cases isNilOp op with
   | none=>rfl
   | some x=>rfl
  rw[this];simp only[stepS]
  cases guardB ds En g with
  | none=>rfl
  | some q=>rfl
 .simp only[goN]
  cases isNilOp op with
  | none=>rfl
  | some x=>obtain ⟨t,x,neg⟩:=x;rfl
def contS (K:(Nat->D)->(Nat->Option Blk)->List (List Nat×List Nat)->Prop) (nx:Nat) (r:List Oper) (dst:Option Tmp) (op:Op) (En:Nat->D) (H:Nat->Option Blk) (hist:List (List Nat×List Nat)) (x:D×Ups):Prop :=
 small (nx+64) x.2=true/\goS P Γ own ds K (nx+64) r (putE En dst x.1) (updL H x.2) (hist++[(touch (opDs En op) H,x.2.map (·.1))])
def contH (K:(Nat->D)->(Nat->Option Blk)->List (List Nat×List Nat)->Prop) (nx:Nat) (r:List Oper) (dst:Option Tmp) (op:Op) (En:Nat->D) (H:Nat->Option Blk) (hist:List (List Nat×List Nat)) (q:Bool) (x:D×Ups):Prop :=
 match x.2 with
 | []=>goS P Γ own ds K (nx+64) r (putE En dst (.g q x.1)) H (hist++[(touch (opDs En op) H,[])])
 | u::us=>(q=true->small (nx+64) (u::us)=true/\goS P Γ own ds K (nx+64) r (putE En dst x.1) (updL H (u::us)) (hist++[(touch (opDs En op) H,(u::us).map (·.1))]))/\(q=false->goS P Γ own ds K (nx+64) r (putE En dst .top) H (hist++[(touch (opDs En op) H,[])]))
def stepH (K:(Nat->D)->(Nat->Option Blk)->List (List Nat×List Nat)->Prop) (nx:Nat) (r:List Oper) (dst:Option Tmp) (op:Op) (En:Nat->D) (H:Nat->Option Blk) (hist:List (List Nat×List Nat)) (o:Option Bool):Prop :=
 match o with
 | none=>False
 | some q=>(opE Γ own op En H nx q).sat P (contH P Γ own ds K nx r dst op En H hist q)
theorem q_goS (K:(Nat->D)->(Nat->Option Blk)->List (List Nat×List Nat)->Prop) (nx:Nat) (r:List Oper) (dst:Option Tmp) (En:Nat->D) (H:Nat->Option Blk) (hist:List (List Nat×List Nat)) :
 (∀op t ps af g,goS P Γ own ds K nx (⟨dst,op,t,ps,af,some g⟩::r) En H hist=stepH P Γ own ds K nx r dst op En H hist (guardB ds En g)) /\
 (∀op t ps af,goS P Γ own ds K nx (⟨dst,op,t,ps,af,none⟩::r) En H hist=(opE Γ own op En H nx true).sat P (contS P Γ own ds K nx r dst op En H hist)) /\
 (∀op q,stepH P Γ own ds K nx r dst op En H hist (some q)=(opE Γ own op En H nx q).sat P (contH P Γ own ds K nx r dst op En H hist q)) /\
 (∀op d u,contS P Γ own ds K nx r dst op En H hist (d,u)=(small (nx+64) u=true/\goS P Γ own ds K (nx+64) r (putE En dst d) (updL H u) (hist++[(touch (opDs En op) H,u.map (·.1))]))) /\
 (∀op q d,contH P Γ own ds K nx r dst op En H hist q (d,[])=goS P Γ own ds K (nx+64) r (putE En dst (.g q d)) H (hist++[(touch (opDs En op) H,[])])) /\
 (∀op q d u us,contH P Γ own ds K nx r dst op En H hist q (d,u::us)=((q=true->small (nx+64) (u::us)=true/\goS P Γ own ds K (nx+64) r (putE En dst d) (updL H (u::us)) (hist++[(touch (opDs En op) H,(u::us).map (·.1))]))/\(q=false->goS P Γ own ds K (nx+64) r (putE En dst .top) H (hist++[(touch (opDs En op) H,[])])))):=by
 refine ⟨fun op t ps af g=>?_,fun _ _ _ _=>rfl,fun _ _=>rfl,fun _ _ _=>rfl,fun _ _ _=>rfl,fun _ _ _ _ _=>rfl⟩;simp only[goS,stepS]
 cases guardB ds En g with
 | none=>rfl
 | some q=>rfl
theorem q_go0 (K:(Nat->D)->(Nat->Option Blk)->Nat->Prop) (nx:Nat) (En:Nat->D) (H:Nat->Option Blk):goN P Γ own ds K nx [] En H=K En H nx:=rfl
theorem q_gS0 (K:(Nat->D)->(Nat->Option Blk)->List (List Nat×List Nat)->Prop) (nx:Nat) (En:Nat->D) (H:Nat->Option Blk) (hist:List (List Nat×List Nat)):goS P Γ own ds K nx [] En H hist=K En H hist:=rfl
def contC (hs:List Nat) (u1:Ups) (nx:Nat) (Q:D×Ups->Prop) (val:D) (bo:List Blk):Prop :=
 if hs.isEmpty && bo.isEmpty && plainD val then Q (val,[])
 else (hs.length<=bo.length/\bo.length<=hs.length+64)/\Q (renD (backT hs nx) val,u1++outUps (backT hs nx) 0 bo)
def CallS (q:Bool) (f:Nat) (bi:List Blk) (args:List D) (K:D->List Blk->Prop):Prop :=
 ∃val bo,(q=true->BCall P f bi args val bo)/\K val bo
def okHand (hs:List Nat) (h:Nat->Option Blk) (r:Nat):Bool:=live (h r) && ((h r).map idsB |>.getD []).all (hs.contains ·)
def blkOf (hs:List Nat) (h:Nat->Option Blk) (r:Nat):Blk:=renBlk (pos hs) ((h r).getD .gone)
def callP (nx:Nat) (h:Nat->Option Blk) (q:Bool) (f:Nat) (hs:List Nat) (Q:D×Ups->Prop) (x:Option (List D×Ups×Prop)):Prop :=
 match x with
 | some (args,u1,p)=>(p/\nodup hs=true/\hs.all (okHand hs (updL h u1))=true)/\CallS P q f (hs.map (blkOf hs (updL h u1))) args (contC hs u1 nx Q)
 | none=>(q=true->False)/\Q (.top,[])
theorem q_callE (o:Bool) (h:Nat->Option Blk) (nx:Nat) (q:Bool) (f:Nat) (as:List D) (Q:D×Ups->Prop) :
 (callE o h nx q f as).sat P Q=callP P nx h q f (as.flatMap (handD o h)) Q (passDs o (as.flatMap (handD o h)) h as):=by
 simp only[callE,callP]
 cases passDs o (as.flatMap (handD o h)) h as with
 | none=>rfl
 | some x =>
  obtain ⟨args,u1,p⟩:=x;simp only[Tr.sat];congr 1;unfold CallS;congr 1
  funext val
  congr 1
  funext bo
  congr 1;unfold contC
  split<;>rfl
theorem q_callP (nx:Nat) (h:Nat->Option Blk) (q:Bool) (f:Nat) (hs:List Nat) (Q:D×Ups->Prop) (args:List D) (u1:Ups) (p:Prop) :
 callP P nx h q f hs Q (some (args,u1,p))=((p/\nodup hs=true/\hs.all (okHand hs (updL h u1))=true)/\CallS P q f (hs.map (blkOf hs (updL h u1))) args (contC hs u1 nx Q)):=rfl
theorem q_callN (nx:Nat) (h:Nat->Option Blk) (q:Bool) (f:Nat) (hs:List Nat) (Q:D×Ups->Prop):callP P nx h q f hs Q none=((q=true->False)/\Q (.top,[])):=rfl
theorem q_full:(∀hs h r k off n,passD true hs h (.u r k off n)=some (.u (pos hs r) k off n,[],True))/\(∀h r k off n,handD true h (.u r k off n)=[r])/\(∀ τ k rows c,renBlk τ (.full k rows c)=.full k rows c)/\(∀ τ r k off n,renD τ (.u r k off n)=.u (τ r) k off n)/\(∀ τ k rows n cs,renBlk τ (.rowx k rows n cs)=.rowx k rows n (cs.map (renC τ))) :=
 ⟨fun _ _ _ _ _ _=>rfl,fun _ _ _ _ _=>rfl,fun _ _ _ _=>rfl,fun _ _ _ _ _=>rfl,fun _ _ _ _ _=>rfl⟩
theorem q_okHand (hs:List Nat) (h:Nat->Option Blk) (r:Nat):okHand hs h r=(live (h r) && ((h r).map idsB |>.getD []).all (hs.contains ·))/\blkOf hs h r=renBlk (pos hs) ((h r).getD .gone):=⟨rfl,rfl⟩
end names
theorem q_pass (hs:List Nat) (h:Nat->Option Blk):(∀o,passDs o hs h []=some ([],[],True))/\(∀o d r,passDs o hs h (d::r)=match passD o hs h d with
 | some (d',u1,p1)=>match passDs o hs (updL h u1) r with
  | some (ds,u2,p2)=>some (d'::ds,u1++u2,p1/\p2)
  | none=>none
 | none=>none) /\
 (∀o b off,passD o hs h (.p b off)=some (.p (pos hs b) off,[],True))/\(∀e,passD false hs h (.e e)=frzD h (.e e))/\(∀e,passD true hs h (.e e)=some (.e (renE (pos hs) e),[],True))/\(∀o cs,passD o hs h (.q cs)=some (.q cs,[],True))/\(∀o,passD o hs h .top=none) :=
 ⟨fun _=>rfl,fun _ _ _=>rfl,fun _ _ _=>rfl,fun _=>rfl,fun _=>rfl,fun _ _=>rfl,fun _=>rfl⟩
theorem q_frzD (h:Nat->Option Blk):(∀c,frzD h (.e (.c c))=match frzCs h [c] with
 | some ([v],u,p)=>some (.e (.c (.v v)),u,p)
 | _=>none) /\
 (∀cs,frzD h (.e (.a cs))=match frzCs h cs with
  | some (vs,u,p)=>some (.e (.a (vs.map .v)),u,p)
  | none=>none):=⟨fun _=>rfl,fun _=>rfl⟩
theorem q_hand (h:Nat->Option Blk):(∀o b off,handD o h (.p b off)=b::(match h b with|some x=>idsB x|none=>[]))/\(∀e,handD false h (.e e)=[])/\(∀o cs,handD o h (.q cs)=[]) /\
 (∀c,handD true h (.e (.c c))=idsC c)/\(∀cs,handD true h (.e (.a cs))=cs.flatMap idsC)/\(∀o,handD o h .top=[]):=⟨fun _ _ _=>rfl,fun e=>by cases e<;>rfl,fun _ _=>rfl,fun _=>rfl,fun _=>rfl,fun _=>rfl⟩
theorem q_contC (nx:Nat) (Q:D×Ups->Prop) (u1:Ups):(∀v,contC [] u1 nx Q (.e (.c (.v (.x v)))) []=Q (.e (.c (.v (.x v))),[])) /\
 (∀cs,contC [] u1 nx Q (.e (.a cs)) []=if cs.all plainC then Q (.e (.a cs),[]) else (([]:List Nat).length<=([]:List Blk).length/\([]:List Blk).length<=([]:List Nat).length+64)/\Q (renD (backT [] nx) (.e (.a cs)),u1++[])) /\
 (∀es,contC [] u1 nx Q (.t es) []=if es.all plainE then Q (.t es,[]) else (([]:List Nat).length<=([]:List Blk).length/\([]:List Blk).length<=([]:List Nat).length+64)/\Q (renD (backT [] nx) (.t es),u1++[])) /\
 (∀k rows,contC [] u1 nx Q (.e (.c (.v (.s k rows)))) []=((([]:List Nat).length<=([]:List Blk).length/\([]:List Blk).length<=([]:List Nat).length+64)/\Q (renD (backT [] nx) (.e (.c (.v (.s k rows)))),u1++[]))) /\
 (∀fn caps,contC [] u1 nx Q (.e (.c (.v (.f fn caps)))) []=((([]:List Nat).length<=([]:List Blk).length/\([]:List Blk).length<=([]:List Nat).length+64)/\Q (renD (backT [] nx) (.e (.c (.v (.f fn caps)))),u1++[]))) /\
 (∀hs val b bo,contC hs u1 nx Q val (b::bo)=((hs.length<=(b::bo).length/\(b::bo).length<=hs.length+64)/\Q (renD (backT hs nx) val,u1++outUps (backT hs nx) 0 (b::bo)))) :=
 ⟨fun _=>rfl,fun _=>rfl,fun _=>rfl,fun _ _=>rfl,fun _ _=>rfl,fun hs val b bo=>by simp[contC]⟩
theorem q_plain:(∀v,plainC (.v (.x v))=true)/\(∀k rows,plainC (.v (.s k rows))=false)/\(∀c,plainE (.c c)=plainC c)/\(∀cs,plainE (.a cs)=cs.all plainC):=⟨fun _=>rfl,fun _ _=>rfl,fun _=>rfl,fun _=>rfl⟩
theorem q_ren (τ:Nat->Nat):(∀a,renD τ (.e a)=.e (renE τ a))/\(∀es,renD τ (.t es)=.t (es.map (renE τ)))/\(∀b o,renD τ (.p b o)=.p (τ b) o)/\(∀a,renE τ (.c a)=.c (renC τ a))/\(∀cs,renE τ (.a cs)=.a (cs.map (renC τ))) /\
 (∀a,renC τ (.v a)=.v a)/\(∀r n,renC τ (.o r n)=.o (τ r) n)/\(∀cs,renBlk τ (.loc cs)=.loc (cs.map (renC τ)))/\(∀k rows,renBlk τ (.row k rows)=.row k rows)/\(∀k rows,renBlk τ (.ice k rows)=.ice k rows)/\renBlk τ .gone=.gone /\
 (∀i,outUps τ i []=[])/\(∀i b r,outUps τ i (b::r)=(τ i,renBlk τ b)::outUps τ (i+1) r):=⟨fun _=>rfl,fun _=>rfl,fun _ _=>rfl,fun _=>rfl,fun _=>rfl,fun _=>rfl,fun _ _=>rfl,fun _=>rfl,fun _ _=>rfl,fun _ _=>rfl,rfl,fun _=>rfl,fun _ _ _=>rfl⟩
theorem q_agg:(∀k,isAggD (.int k)=false)/\isAggD .bool=false/\isAggD .string=false/\(∀e,isAggD (.slice e)=false)/\(∀e,isAggD (.pointer e)=false)/\(∀n e,isAggD (.array n e)=true)/\(∀fs,isAggD (.struct fs)=true):=⟨fun _=>rfl,rfl,rfl,fun _=>rfl,fun _=>rfl,fun _ _=>rfl,fun _=>rfl⟩
theorem q_put (En:Nat->D) (d:D):putE En none d=En/\∀t,putE En (some t) d=upd En t d:=⟨rfl,fun _=>rfl⟩
theorem q_updL (H:Nat->Option Blk):updL H []=H/\∀i b r,updL H ((i,b)::r)=updL (upd H i (some b)) r:=⟨rfl,fun _ _ _=>rfl⟩
theorem q_small (n:Nat):small n []=true/\∀i b r,small n ((i,b)::r)=(decide (i<n) && small n r):=⟨rfl,fun _ _ _=>rfl⟩
theorem q_ds:dstL []=[]/\∀d op t ps af g r,dstL (⟨d,op,t,ps,af,g⟩::r)=d::dstL r:=⟨rfl,fun _ _ _ _ _ _ _=>rfl⟩
theorem q_bin (Γ:Nat->Option Ty) (q:Bool) (t:TypeId) (k:IntKind) (a b:Int) :
 (binE Γ q .add t (.e (.c (.v (.x (.int k a))))) (.e (.c (.v (.x (.int k b)))))=.ret (.e (.c (.v (.x (.int k (k.wrap (a+b)))))),[])) /\
 (binE Γ q .sub t (.e (.c (.v (.x (.int k a))))) (.e (.c (.v (.x (.int k b)))))=.ret (.e (.c (.v (.x (.int k (k.wrap (a - b)))))),[])) /\
 (binE Γ q .mul t (.e (.c (.v (.x (.int k a))))) (.e (.c (.v (.x (.int k b)))))=.ret (.e (.c (.v (.x (.int k (k.wrap (a*b)))))),[])) /\
 (binE Γ q .quo t (.e (.c (.v (.x (.int k a))))) (.e (.c (.v (.x (.int k b)))))=.ask (q=true->b≠0) (.ret (.e (.c (.v (.x (.int k (k.wrap (a.tdiv b)))))),[]))) /\
 (binE Γ q .rem t (.e (.c (.v (.x (.int k a))))) (.e (.c (.v (.x (.int k b)))))=.ask (q=true->b≠0) (.ret (.e (.c (.v (.x (.int k (a.tmod b))))),[]))) /\
 (binE Γ q .eql t (.e (.c (.v (.x (.int k a))))) (.e (.c (.v (.x (.int k b)))))=.ret (.e (.c (.v (.x (.bool (a == b))))),[])) /\
 (binE Γ q .neq t (.e (.c (.v (.x (.int k a))))) (.e (.c (.v (.x (.int k b)))))=.ret (.e (.c (.v (.x (.bool (a != b))))),[])) /\
 (binE Γ q .lss t (.e (.c (.v (.x (.int k a))))) (.e (.c (.v (.x (.int k b)))))=.ret (.e (.c (.v (.x (.bool (decide (a<b)))))),[])) /\
 (binE Γ q .leq t (.e (.c (.v (.x (.int k a))))) (.e (.c (.v (.x (.int k b)))))=.ret (.e (.c (.v (.x (.bool (decide (a<=b)))))),[])) /\
 (binE Γ q .gtr t (.e (.c (.v (.x (.int k a))))) (.e (.c (.v (.x (.int k b)))))=.ret (.e (.c (.v (.x (.bool (decide (b<a)))))),[])) /\
 (binE Γ q .geq t (.e (.c (.v (.x (.int k a))))) (.e (.c (.v (.x (.int k b)))))=.ret (.e (.c (.v (.x (.bool (decide (b<=a)))))),[])) /\
 (binE Γ q .and t (.e (.c (.v (.x (.int k a))))) (.e (.c (.v (.x (.int k b)))))=.ret (.e (.c (.v (.x (.int k (k.wrap ((BitVec.ofInt k.bits a &&& BitVec.ofInt k.bits b).toNat)))))),[])) /\
 (binE Γ q .or t (.e (.c (.v (.x (.int k a))))) (.e (.c (.v (.x (.int k b)))))=.ret (.e (.c (.v (.x (.int k (k.wrap ((BitVec.ofInt k.bits a ||| BitVec.ofInt k.bits b).toNat)))))),[])) /\
 (binE Γ q .xor t (.e (.c (.v (.x (.int k a))))) (.e (.c (.v (.x (.int k b)))))=.ret (.e (.c (.v (.x (.int k (k.wrap ((BitVec.ofInt k.bits a ^^^ BitVec.ofInt k.bits b).toNat)))))),[])) /\
 (∀k',binE Γ q .shl t (.e (.c (.v (.x (.int k a))))) (.e (.c (.v (.x (.int k' b)))))=.ask (q=true->0<=b) (.ret (.e (.c (.v (.x (.int k (k.wrap (a*2 ^ (min b.toNat k.bits))))))),[]))) /\
 (∀k',binE Γ q .shr t (.e (.c (.v (.x (.int k a))))) (.e (.c (.v (.x (.int k' b)))))=.ask (q=true->0<=b) (.ret (.e (.c (.v (.x (.int k (a.fdiv (2 ^ (min b.toNat k.bits))))))),[]))):=by
 refine ⟨?_,?_,?_,?_,?_,?_,?_,?_,?_,?_,?_,?_,?_,?_,fun _=>rfl,fun _=>rfl⟩<;>simp[binE,binI,D.x]
def isBoolT:Option Ty->Tr (D×Ups)->Tr (D×Ups)
 | some ty,k=>match ty.desc with
  | .bool=>k
  | _=>.fail
 | none,_=>.fail
theorem q_binB (Γ:Nat->Option Ty) (q:Bool) (t:TypeId) (a b:Bool) :
 (binE Γ q .eql t (.e (.c (.v (.x (.bool a))))) (.e (.c (.v (.x (.bool b)))))=isBoolT (Γ t) (.ret (.e (.c (.v (.x (.bool (a == b))))),[]))) /\
 (binE Γ q .neq t (.e (.c (.v (.x (.bool a))))) (.e (.c (.v (.x (.bool b)))))=isBoolT (Γ t) (.ret (.e (.c (.v (.x (.bool (!(a == b)))))),[]))):=by
 constructor
 .simp only[binE,isBoolT]
  cases Γ t with
  | none=>rfl
  | some ty=>cases ty with|mk d z sz by'=>cases d<;>rfl
 .simp only[binE,isBoolT]
  cases Γ t with
  | none=>rfl
  | some ty=>cases ty with|mk d z sz by'=>cases d<;>rfl
theorem q_isB (ty:Ty) (k:Tr (D×Ups)):isBoolT (some ty) k=match ty.desc with
 | .bool=>k
 | _=>.fail:=rfl
theorem q_binS (Γ:Nat->Option Ty) (q:Bool) (op:BinOp) (t:TypeId) (a b:ByteArray):binE Γ q op t (.e (.c (.v (.x (.string a))))) (.e (.c (.v (.x (.string b)))))=binS op a b:=by
 cases op<;>rfl
theorem q_strOp (a b:ByteArray):(binS .add a b=.ask (a.size+b.size<=9223372036854775807) (.ret (.e (.c (.v (.x (.string (a++b))))),[])))/\(binS .eql a b=.ret (.e (.c (.v (.x (.bool (a.data.toList == b.data.toList))))),[])) /\
 (binS .neq a b=.ret (.e (.c (.v (.x (.bool (!(a.data.toList == b.data.toList)))))),[]))/\(binS .lss a b=.ret (.e (.c (.v (.x (.bool (Op.bytesLess a.data.toList b.data.toList))))),[])):=⟨rfl,rfl,rfl,rfl⟩
theorem q_un:(∀q b,unQ q .not (.e (.c (.v (.x (.bool b)))))=.ret (.e (.c (.v (.x (.bool (!b))))),[]))/\(∀q k n,unQ q .neg (.e (.c (.v (.x (.int k n)))))=.ret (.e (.c (.v (.x (.int k (k.wrap (0 - n)))))),[]))/\(∀q op,unQ q op .top=.ask (q=true->False) (.ret (.top,[]))):=⟨fun _ _=>rfl,fun _ _ _=>rfl,fun _ _=>rfl⟩
theorem q_pick (q c:Bool) (ea eb:D) :
 (∀a,pickE q (.e (.c (.v (.x (.bool c))))) a (.const (.bool false)) ea eb=need (q && c) ea fun|.e (.c (.v (.x (.bool v))))=>.ret (.e (.c (.v (.x (.bool (c && v))))),[])|_=>.ask (c=false) (.ret (.e (.c (.v (.x (.bool false)))),[]))) /\
 (∀t,pickE q (.e (.c (.v (.x (.bool c))))) (.const (.bool true)) (.tmp t) ea eb=need (q && !c) eb fun|.e (.c (.v (.x (.bool v))))=>.ret (.e (.c (.v (.x (.bool (c || v))))),[])|_=>.ask (c=true) (.ret (.e (.c (.v (.x (.bool true)))),[]))):=⟨fun _=>rfl,fun _=>rfl⟩
section mem
variable (ty:Ty) (h:Nat->Option Blk) (q:Bool)
theorem q_load:(∀b off,loadE ty h q (.p b off)=match h b with
 | some (.loc cs)=>.ask (q=true->off+ty.size<=cs.length) (.ret (pick1 (isAggD ty.desc) ty.size id (cs.drop off),[]))
 | some (.ice _ [vs])=>.ask (q=true->off+ty.size<=vs.length) (.ret (pick1 (isAggD ty.desc) ty.size .v (vs.drop off),[]))
 | _=>.fail) /\
 (∀cs,loadE ty h q (.q cs)=.ask (q=true->ty.size<=cs.length) (.ret (pick1 (isAggD ty.desc) ty.size .v cs,[]))) /\
 (∀r k i off,loadE ty h q (.w r k i off)=match h r with
  | some (.row k' rows)=>.ask (q=true->k'=k/\i<rows.length/\off+ty.size<=k) (.ret (pick1 (isAggD ty.desc) ty.size .v (rowAt ty rows i off),[]))
  | some (.ice k' rows)=>.ask (q=true->k'=k/\i<rows.length/\off+ty.size<=k) (.ret (pick1 (isAggD ty.desc) ty.size .v (rowAt ty rows i off),[]))
  | some (.rowx k' rows n cs)=>if i=n then .ask (q=true->k'=k/\off+ty.size<=k) (.ret (pick1 (isAggD ty.desc) ty.size id (cs.drop off),[]))
   else .ask (q=true->k'=k/\i<rows.length/\off+ty.size<=k) (.ret (pick1 (isAggD ty.desc) ty.size .v (rowAt ty rows i off),[]))
  | _=>.fail):=⟨fun _ _=>rfl,fun _=>rfl,fun _ _ _ _=>rfl⟩
theorem q_store:(∀b off e,storeE ty h (.p b off) (.e e)=match h b with
 | some (.loc cs)=>.ask (e.cells.length=ty.size/\off+ty.size<=cs.length) (.ret (.top,[(b,.loc (splice cs off e.cells))]))
 | _=>.fail) /\
 (∀r k i off e,storeE ty h (.w r k i off) (.e e)=match h r with
  | some (.rowx k' rows n cs)=>if i=n then .ask (e.cells.length=ty.size/\k'=k/\off+ty.size<=k) (.ret (.top,[(r,.rowx k' rows n (splice cs off e.cells))]))
   else match frzCs h e.cells with
    | some (vs,u,p)=>match updL h u r with
     | some (.rowx k' rows n cs)=>.ask (p/\vs.length=ty.size/\k'=k/\i≠n/\i<rows.length/\off+ty.size<=k) (.ret (.top,u++[(r,.rowx k' (rows.set i (splice (rows.getD i []) off vs)) n cs)]))
     | _=>.fail
    | none=>.fail
  | _=>match frzCs h e.cells with
   | some (vs,u,p)=>match updL h u r with
    | some (.row k' rows)=>.ask (p/\vs.length=ty.size/\k'=k/\i<rows.length/\off+ty.size<=k) (.ret (.top,u++[(r,.row k' (rows.set i (splice (rows.getD i []) off vs)))]))
    | _=>.fail
   | none=>.fail):=⟨fun _ _ _=>rfl,fun _ _ _ _ _=>rfl⟩
end mem
theorem q_pick1 {α:Type} [Inhabited α] (size:Nat) (mk1:α->C) (cs:List α):pick1 true size mk1 cs=.e (.a ((cs.take size).map mk1))/\pick1 false size mk1 cs=.e (.c (mk1 (cs.headD default))):=⟨rfl,rfl⟩
theorem q_fA (Γ:Nat->Option Ty) (ty:Ty) (f:Nat) (d:D):fieldAddrE Γ ty f d=match fieldInfo Γ ty f with
 | some (off,size,_)=>.ask (size≠0) (match shiftPtr off d with|some d'=>.ret (d',[])|none=>.fail)
 | none=>.fail:=rfl
theorem q_fE (Γ:Nat->Option Ty) (ty:Ty) (f:Nat) (q:Bool) (cs:List C):fieldE Γ ty f q (.e (.a cs))=match fieldInfo Γ ty f with
 | some (off,size,agg)=>.ask (q=true->off+size<=cs.length/\size≠0) (.ret (pick1 agg size id (cs.drop off),[]))
 | none=>.fail:=rfl
theorem q_shift (off:Nat):(∀b o,shiftPtr off (.p b o)=some (.p b (o+off)))/\(∀cs,shiftPtr off (.q cs)=some (.q (cs.drop off)))/\(∀r k i o,shiftPtr off (.w r k i o)=some (.w r k i (o+off))):=⟨fun _ _=>rfl,fun _=>rfl,fun _ _ _ _=>rfl⟩
theorem q_cells:(∀c,E.cells (.c c)=[c])/\(∀cs,E.cells (.a cs)=cs):=⟨fun _=>rfl,fun _=>rfl⟩
theorem q_frz (h:Nat->Option Blk):(frzCs h []=some ([],[],True))/\(∀a r,frzCs h (.v a::r)=match frzCs h r with|some (vs,u,p)=>some (a::vs,u,p)|none=>none) /\
 (∀x n cs,frzCs h (.o x n::cs)=match frzC h (.o x n) with
  | some (v,u1,p1)=>match frzCs (updL h u1) cs with
   | some (vs,u2,p2)=>some (v::vs,u1++u2,p1/\p2)
   | none=>none
  | none=>none) /\
 (∀x n,frzC h (.o x n)=match h x with
  | some (.row k rows)=>some (.s k (rows.take n),[(x,.ice k rows)],n<=rows.length)
  | some (.ice k rows)=>some (.s k (rows.take n),[],n<=rows.length)
  | _=>none):=⟨rfl,fun _ _=>rfl,fun _ _ _=>rfl,fun _ _=>rfl⟩
theorem q_ext (i:Nat) (es:List E):extractE i (.t es)=match es[i]? with|some e=>.ret (.e e,[])|none=>.fail:=rfl
theorem q_rowsOf (h:Nat->Option Blk):(∀k rows,rowsOf h (.e (.c (.v (.s k rows))))=some rows)/\rowsOf h (.e (.c (.v (.x (.slice none 0 0)))))=some [] /\
 (∀r n,rowsOf h (.e (.c (.o r n)))=match h r with
  | some (.row _ rows)=>some (rows.take n)
  | some (.ice _ rows)=>some (rows.take n)
  | _=>none):=⟨fun _ _=>rfl,rfl,fun _ _=>rfl⟩
theorem q_le (H H2:Nat->Option Blk) (τ:Nat->Nat) (ν:List Nat):(∀En,leL H H2 τ ν En []=True)/\(∀En t d r,leL H H2 τ ν En ((t,d)::r)=(DLe H H2 τ ν d (En t)/\leL H H2 τ ν En r)) /\
 (leH H H2 τ ν []=True)/\(∀i b r,leH H H2 τ ν ((i,b)::r)=((if ν.contains i=true then emptyRow b else leB H H2 τ ν b (H (τ i)))/\leH H H2 τ ν r)) /\
 (∀b b0,leB H H2 τ ν b (some b0)=BLe H H2 τ ν b b0):=⟨fun _=>rfl,fun _ _ _ _=>rfl,rfl,fun _ _ _=>rfl,fun _ _=>rfl⟩
theorem q_Le (H H2:Nat->Option Blk) (τ:Nat->Nat) (ν:List Nat):(∀a b,DLe H H2 τ ν (.e a) (.e b)=ELe H H2 τ ν a b)/\(∀as bs,DLe H H2 τ ν (.t as) (.t bs)=EsLe H H2 τ ν as bs) /\
 (∀b2 o2 b o,DLe H H2 τ ν (.p b2 o2) (.p b o)=(ν.contains b2=false/\τ b2=b/\o2=o/\(H2 b2).isSome=true))/\(∀d,DLe H H2 τ ν .top d=True) /\
 (∀a b,ELe H H2 τ ν (.c a) (.c b)=CLe H H2 τ ν a b)/\(∀a b,ELe H H2 τ ν (.a a) (.a b)=CsLe H H2 τ ν a b) /\
 (EsLe H H2 τ ν [] []=True)/\(∀a as b bs,EsLe H H2 τ ν (a::as) (b::bs)=(ELe H H2 τ ν a b/\EsLe H H2 τ ν as bs)) /\
 (CsLe H H2 τ ν [] []=True)/\(∀a as b bs,CsLe H H2 τ ν (a::as) (b::bs)=(CLe H H2 τ ν a b/\CsLe H H2 τ ν as bs)) /\
 (∀a b,CLe H H2 τ ν (.v a) (.v b)=VLe a b)/\(∀r2 n2 r n,CLe H H2 τ ν (.o r2 n2) (.o r n)=(ν.contains r2=false/\τ r2=r/\n2=n/\(H2 r2).isSome=true)) /\
 (∀r2 n2,CLe H H2 τ ν (.o r2 n2) (.v (.x (.slice none 0 0)))=(n2=0/\ν.contains r2=true/\(H2 r2).isSome=true)) /\
 (∀k rows r n,CLe H H2 τ ν (.v (.s k rows)) (.o r n)=match H r with
  | some (.ice k' rows')=>k=k'/\rows=rows'.take n/\n<=rows'.length
  | _=>False) /\
 (∀r2 k2 o2 n2 r k o n,DLe H H2 τ ν (.u r2 k2 o2 n2) (.u r k o n)=(ν.contains r2=false/\τ r2=r/\k2=k/\o2=o/\n2=n/\(H2 r2).isSome=true)):=⟨fun _ _=>rfl,fun _ _=>rfl,fun _ _ _ _=>rfl,fun _=>rfl,fun _ _=>rfl,fun _ _=>rfl,rfl,fun _ _ _ _=>rfl,rfl,fun _ _ _ _=>rfl,fun _ _=>rfl,fun _ _ _ _=>rfl,fun _ _=>rfl,fun _ _ _ _=>rfl,fun _ _ _ _ _ _ _ _=>rfl⟩
theorem q_VLe:(∀a b,VLe (.x a) (.x b)=(V.x a=V.x b))/\(∀k rows v,VLe (.s k rows) (.x v)=(rows=[]/\v=.slice none 0 0))/\(∀k rows k' rows',VLe (.s k rows) (.s k' rows')=(V.s k rows=V.s k' rows'))/\(∀f cs g ds,VLe (.f f cs) (.f g ds)=(V.f f cs=V.f g ds)):=⟨fun _ _=>rfl,fun _ _ _=>rfl,fun _ _ _ _=>rfl,fun _ _ _ _=>rfl⟩
theorem q_BLe (H H2:Nat->Option Blk) (τ:Nat->Nat) (ν:List Nat):(∀b,BLe H H2 τ ν .gone b=True)/\(∀as bs,BLe H H2 τ ν (.loc as) (.loc bs)=CsLe H H2 τ ν as bs)/\(∀k rows k' rows',BLe H H2 τ ν (.row k rows) (.row k' rows')=(k=k'/\rows=rows')) /\
 (∀k rows k' rows',BLe H H2 τ ν (.ice k rows) (.row k' rows')=(k=k'/\rows=rows'))/\(∀k rows k' rows',BLe H H2 τ ν (.ice k rows) (.ice k' rows')=(k=k'/\rows=rows'))/\(∀k rows k' rows' c,BLe H H2 τ ν (.row k rows) (.full k' rows' c)=(k=k'/\rows=rows'))/\(∀k rows c k' rows' c',BLe H H2 τ ν (.full k rows c) (.full k' rows' c')=(k=k'/\rows=rows'/\c=c'))/\(∀k rows n cs k' rows' n' cs',BLe H H2 τ ν (.rowx k rows n cs) (.rowx k' rows' n' cs')=(k=k'/\rows=rows'/\n=n'/\CsLe H H2 τ ν cs cs'))/\(∀k rows n cs k' rows',BLe H H2 τ ν (.rowx k rows n cs) (.row k' rows')=(k=k'/\rows=rows'/\n<rows.length/\cs=(rows.getD n []).map .v))/\(∀k rows k' rows' n' cs',BLe H H2 τ ν (.row k rows) (.rowx k' rows' n' cs')=(k=k'/\∃vs:List V,rows=rows'.set n' vs/\CsLe H H2 τ ν (vs.map .v) cs')):=⟨fun b=>by cases b<;>rfl,fun _ _=>rfl,fun _ _ _ _=>rfl,fun _ _ _ _=>rfl,fun _ _ _ _=>rfl,fun _ _ _ _ _=>rfl,fun _ _ _ _ _ _=>rfl,fun _ _ _ _ _ _ _ _=>rfl,fun _ _ _ _ _ _=>rfl,fun _ _ _ _ _ _=>rfl⟩
theorem q_empty:∀k rows,emptyRow (.row k rows)=(rows=[]):=fun _ _=>rfl
theorem q_res (Γ:Nat->Option Ty) (H:Nat->Option Blk) (En:Nat->D):(∀t,resE Γ H En [.tmp t]=some (En t))/\(∀a t,resE Γ H En [.cell a t]=(resV Γ H En (.cell a t)).map .e)/\(∀a b r,resE Γ H En (a::b::r)=(resTs Γ H En (a::b::r)).map .t)/\(resE Γ H En []=some (.t []))/\(resTs Γ H En []=some []) /\
 (∀r rs,resTs Γ H En (r::rs)=match resV Γ H En r,resTs Γ H En rs with|some e,some es=>some (e::es)|_,_=>none) /\
 (∀t,resV Γ H En (.tmp t)=match En t with|.e e=>some e|_=>none) /\
 (∀a t,resV Γ H En (.cell a t)=match Γ t,En a with
  | some ty,.p b off=>match H b with
   | some (.loc cs)=>if off+ty.size<=cs.length then (match pick1 (isAggD ty.desc) ty.size id (cs.drop off) with|.e e=>some e|_=>none) else none
   | _=>none
  | _,_=>none):=⟨fun _=>rfl,fun _ _=>rfl,fun a _ _=>by cases a<;>rfl,rfl,rfl,fun _ _=>rfl,fun _=>rfl,fun _ _=>rfl⟩
theorem q_Fin (Γ:Nat->Option Ty) (fn:Func) (m0:Nat) (val:D) (bo:List Blk) (st:St):Fin Γ fn m0 val bo st=onRes st.H m0 val bo (resE Γ st.H st.En fn.results.toList):=by unfold Fin;rfl
theorem q_onRes (H:Nat->Option Blk) (m0:Nat) (val:D) (bo:List Blk) (d:D):onRes H m0 val bo (some d)=finK H m0 val bo d:=rfl
theorem q_ice (keep:List Nat) (H:Nat->Option Blk) (i:Nat):iceH keep H i=if keep.contains i then H i else match H i with
 | some (.row k rows)=>some (.ice k rows)
 | b=>b:=rfl
theorem q_mk (l:List (Nat×D)) (h:List (Nat×Blk)) (nx:Nat):(mkSt l h nx).En=ofL l/\(mkSt l h nx).H=ofH h/\(mkSt l h nx).nx=nx:=⟨rfl,rfl,rfl⟩
theorem q_ofL:(∀t,ofL [] t=.top)/\(∀i d r t,ofL ((i,d)::r) t=if t=i then d else ofL r t)/\(∀j,ofH [] j=none)/\(∀i b r j,ofH ((i,b)::r) j=if j=i then some b else ofH r j)/\(∀i,ren [] i=i)/\(∀j k r i,ren ((j,k)::r) i=if i=j then k else ren r i) /\
 (∀i,numL i []=[])/\(∀i b r,numL i (b::r)=(i,b)::numL (i+1) r):=⟨fun _=>rfl,fun _ _ _ _=>rfl,fun _=>rfl,fun _ _ _ _=>rfl,fun _=>rfl,fun _ _ _ _=>rfl,fun _=>rfl,fun _ _ _=>rfl⟩
end Eng
end Go.Proofs.YtgenjpingdkmgaaGreatDoor
