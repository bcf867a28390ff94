/- Contracts of functions that this seat's law calls. No condition. -/
import Derived.Test.YtgenjpingdkmgaaGreatDoorG07
set_option maxRecDepth 100000
set_option linter.unusedSimpArgs false
set_option linter.unusedVariables false
namespace Go.Proofs.YtgenjpingdkmgaaGreatDoor
namespace Eng
section
def ancL:List Oper->List Nat->List Nat
 | [],acc=>acc
 | o::r,acc=>ancL r (acc++[o.after.toList.foldl (fun s e=>if Region.binds .any e then s ||| 2 ^ e.on ||| acc.getD e.on 0 else s) 0])
def ahead' (ops:Array Oper) (i j:Nat):Bool:=((ancL ops.toList []).getD j 0).testBit i
def Closed (ops:Array Oper) (S:Nat->Prop):Prop:=∀(j:Nat) (o:Oper),S j->ops[j]?=some o->∀e,e∈o.after->Region.binds .any e=true->S e.on
theorem foldl_bit {acc:List Nat}:∀ {es:List Edge} {s i:Nat},(es.foldl (fun s e=>if Region.binds .any e then s ||| 2 ^ e.on ||| acc.getD e.on 0 else s) s).testBit i=true ->
 s.testBit i=true\/∃e,e∈es/\Region.binds .any e=true/\(i=e.on\/(acc.getD e.on 0).testBit i=true)
 | [],s,i,h=>.inl h
 | e::es,s,i,h=>by
  simp only[List.foldl_cons]at h;rcases foldl_bit h with h|⟨e',h1,h2⟩
  .split at h
   .rename_i hb;simp only[Nat.testBit_or,Bool.or_eq_true]at h;rcases h with (h|h)|h
    .exact .inl h
    .refine .inr ⟨e,by simp,hb,.inl ?_⟩;rw[Nat.testBit_two_pow]at h;have h:e.on=i:=by simpa using h
     exact h.symm
    .exact .inr ⟨e,by simp,hb,.inr h⟩
   .exact .inl h
  .exact .inr ⟨e',by simp[h1],h2⟩
theorem ancL_spec {ops:Array Oper} {S:Nat->Prop} (hS:Closed ops S):∀ {rest:List Oper} {acc:List Nat},(∀k,rest[k]?=ops[acc.length+k]?)->(∀j i,(acc.getD j 0).testBit i=true->S j->S i) ->
 ∀j i,((ancL rest acc).getD j 0).testBit i=true->S j->S i
 | [],acc,_,h=>h
 | o::r,acc,hr,h=>by
  simp only[ancL];refine ancL_spec hS (fun k=>by have:=hr (k+1);simpa[Nat.add_assoc,Nat.add_comm 1] using this) fun j i hb hj=>?_;by_cases hlt:j<acc.length
  .rw[List.getD_eq_getElem?_getD,List.getElem?_append_left hlt,<-List.getD_eq_getElem?_getD]at hb;exact h j i hb hj
  .by_cases he:j=acc.length
   .subst he;have ho:ops[acc.length]?=some o:=by have:=hr 0;simpa using this.symm
    rw[List.getD_eq_getElem?_getD,List.getElem?_append_right (Nat.le_refl _)]at hb;simp only[Nat.sub_self,List.getElem?_cons_zero,Option.getD_some]at hb;rcases foldl_bit hb with hb|⟨e,h1,h2,h3⟩
    .simp at hb
    .have hse:=hS _ o hj ho e (by simpa using h1) h2;rcases h3 with rfl|h3
     .exact hse
     .exact h _ _ h3 hse
   .have:(acc++[o.after.toList.foldl (fun s e=>if Region.binds .any e then s ||| 2 ^ e.on ||| acc.getD e.on 0 else s) 0]).getD j 0=0:=by
     rw[List.getD_eq_getElem?_getD,List.getElem?_eq_none (by simp;omega)];rfl
    rw[this]at hb;simp at hb
theorem ahead_closed {ops:Array Oper} {S:Nat->Prop} (hS:Closed ops S) {i j:Nat} (h:ahead' ops i j=true) (hj:S j):S i :=
 ancL_spec hS (acc:=[]) (fun k=>by simp) (fun j i hb _=>by simp at hb) j i h hj
def statOk (ops:Array Oper):Bool :=
 (List.range ops.size).all fun j=>match ops[j]? with
  | none=>false
  | some oj=>(oj.after.all fun e=>!Region.binds .any e || decide (e.on<j)) &&
   (List.range j).all fun i=>match ops[i]? with
    | none=>false
    | some oi=>ahead' ops i j || oi.apart ops oj
def inRange (nx i x:Nat):Bool:=decide (nx+64*i<=x) && decide (x<nx+64*i+64)
def chk (ops:Array Oper) (nx:Nat) (hist:List (List Nat×List Nat)):Bool :=
 (hist.all fun x=>x.2.isEmpty) ||
 (List.range hist.length).all fun k=>(hist.getD k ([],[])).2.isEmpty || (List.range hist.length).all fun i=>i == k || ahead' ops i k || ahead' ops k i ||
  (hist.getD k ([],[])).2.all fun x=>!(hist.getD i ([],[])).1.contains x && !(hist.getD i ([],[])).2.contains x && !inRange nx i x
section fold
variable {β:Type}
def foldS (f:Nat->(Nat->β)->Nat->β) (S:Nat->Bool) (g:Nat->β):Nat->Nat->β
 | 0=>g
 | k+1=>if S k then f k (foldS f S g k) else foldS f S g k
variable {f:Nat->(Nat->β)->Nat->β} {W:Nat->Nat->Prop} {S:Nat->Bool} {g:Nat->β}
theorem foldS_skip (hW:∀k g t,¬W k t->f k g t=g t) {t a b:Nat} (hab:a<=b) (h:∀k,a<=k->k<b->W k t->S k=false):foldS f S g b t=foldS f S g a t:=by
 induction b with
 | zero=>have:a=0:=by omega
         subst this;rfl
 | succ b ih =>
  by_cases e:a=b+1
  .subst e;rfl
  .simp only[foldS];rw[<-ih (by omega) fun k h1 h2=>h k h1 (by omega)]
   cases hs:S b with
   | false=>simp
   | true =>
    simp only[if_true];exact hW b _ t fun hw=>by have:=h b (by omega) (by omega) hw;rw[hs]at this;cases this
theorem foldS_all (hf:∀k (g g':Nat->β) t,g t=g' t->f k g t=f k g' t) (hW:∀k g t,¬W k t->f k g t=g t) {t a:Nat} (h:∀k,k<a->W k t->S k=true):foldS f S g a t=foldS f (fun _=>true) g a t:=by
 induction a with
 | zero=>rfl
 | succ a ih =>
  have ih:=ih fun k hk=>h k (by omega);simp only[foldS,if_true]
  cases hs:S a with
  | true=>simp only[if_true];exact hf a _ _ t ih
  | false =>
   simp only[Bool.false_eq_true,if_false];rw[ih,hW a _ t fun hw=>by have:=h a (by omega) hw;rw[hs]at this;cases this]
theorem foldS_agree (hf:∀k (g g':Nat->β) t,g t=g' t->f k g t=f k g' t) (hW:∀k g t,¬W k t->f k g t=g t) {t i n:Nat} (hin:i<=n) (h1:∀k,k<i->W k t->S k=true) (h2:∀k,i<=k->k<n->W k t->S k=false) :
 foldS f S g n t=foldS f (fun _=>true) g i t:=by
 rw[foldS_skip hW hin h2,foldS_all hf hW h1]
theorem foldS_put (hf:∀k (g g':Nat->β) t,g t=g' t->f k g t=f k g' t) (hW:∀k g t,¬W k t->f k g t=g t) {i n:Nat} (hin:i<n) (hi:S i=false) (h2:∀t,W i t->∀k,i<k->k<n->W k t->S k=false) :
 foldS f (fun k=>k == i || S k) g n=f i (foldS f S g n):=by
 funext t
 have low:∀a,a<=i->foldS f (fun k=>k == i || S k) g a=foldS f S g a:=by
  intro a ha
  induction a with
  | zero=>rfl
  | succ a ih =>
   have:(a == i)=false:=by simp;omega
   simp only[foldS,this,Bool.false_or,ih (by omega)]
 by_cases hw:W i t
 .rw[foldS_skip (a:=i+1) hW (by omega) fun k h1 h3 h4=>by
   have:(k == i)=false:=by simp;omega
   simp only[this,Bool.false_or];exact h2 t hw k (by omega) h3 h4]
  have:foldS f (fun k=>k == i || S k) g (i+1) t=f i (foldS f S g i) t:=by
   simp[foldS,low i (Nat.le_refl _)]
  rw[this];refine hf i _ _ t ?_;rw[foldS_skip (a:=i) (b:=n) hW (by omega) fun k h1 h3 h4=>?_];by_cases e:k=i
  .subst e;exact hi
  .exact h2 t hw k (by omega) h3 h4
 .rw[hW i _ t hw]
  have high:∀b,i<b->foldS f (fun k=>k == i || S k) g b t=foldS f S g b t:=by
   intro b hb
   induction b with
   | zero=>omega
   | succ b ih =>
    simp only[foldS];by_cases e:b=i
    .subst e;simp only[beq_self_eq_true,Bool.true_or,if_true,hi,Bool.false_eq_true,if_false];rw[hW b _ t hw,low b (Nat.le_refl _)]
    .have:(b == i)=false:=by simp[e]
     simp only[this,Bool.false_or];have ih:=ih (by omega)
     split
     .exact hf b _ _ t ih
     .exact ih
  exact high n hin
end fold
variable {P:Program} {Γ:Nat->Option Ty} {own:Nat->Bool} {ops:Array Oper} {own0 mt:Nat->Prop} {w0 w w':World} {ρ0 ρ ρ':Nat->Option Pl} {En En':Nat->D} {H H':Nat->Option Blk}
structure Text (P:Program) (Γ:Nat->Option Ty) (own:Nat->Bool) (ops:Array Oper) (nx:Nat) (En:Nat->D) (H:Nat->Option Blk) (res:Nat->D×Ups):Prop where
 gives:∀i o,ops[i]?=some o->StepG P Γ own (dstL ops.toList) o (foldS (fun k g=>putE g ((ops[k]?).bind (·.dst)) (res k).1) (fun _=>true) En i) (foldS (fun k h=>updL h (res k).2) (fun _=>true) H i) (nx+64*i) (res i).1 (res i).2
theorem goS_text {nx:Nat} {K:(Nat->D)->(Nat->Option Blk)->List (List Nat×List Nat)->Prop} (h:goS P Γ own (dstL ops.toList) K nx ops.toList En H []) :
 ∃res,Text P Γ own ops nx En H res/\∃hist:List (List Nat×List Nat),hist.length=ops.size /\
  (∀i o,ops[i]?=some o->hist[i]?=some (touch (opDs (foldS (fun k g=>putE g ((ops[k]?).bind (·.dst)) (res k).1) (fun _=>true) En i) o.op) (foldS (fun k h=>updL h (res k).2) (fun _=>true) H i),(res i).2.map (·.1))) /\
  K (foldS (fun k g=>putE g ((ops[k]?).bind (·.dst)) (res k).1) (fun _=>true) En ops.size) (foldS (fun k h=>updL h (res k).2) (fun _=>true) H ops.size) hist:=by
 have key:∀(rest:List Oper) (i:Nat) (res:Nat->D×Ups) (hist:List (List Nat×List Nat)),(∀k,rest[k]?=ops[i+k]?)->hist.length=i->i+rest.length=ops.size ->
  (∀j o,j<i->ops[j]?=some o->StepG P Γ own (dstL ops.toList) o (foldS (fun k g=>putE g ((ops[k]?).bind (·.dst)) (res k).1) (fun _=>true) En j) (foldS (fun k h=>updL h (res k).2) (fun _=>true) H j) (nx+64*j) (res j).1 (res j).2) ->
  (∀j o,j<i->ops[j]?=some o->hist[j]?=some (touch (opDs (foldS (fun k g=>putE g ((ops[k]?).bind (·.dst)) (res k).1) (fun _=>true) En j) o.op) (foldS (fun k h=>updL h (res k).2) (fun _=>true) H j),(res j).2.map (·.1))) ->
  goS P Γ own (dstL ops.toList) K (nx+64*i) rest (foldS (fun k g=>putE g ((ops[k]?).bind (·.dst)) (res k).1) (fun _=>true) En i) (foldS (fun k h=>updL h (res k).2) (fun _=>true) H i) hist ->
  ∃res,Text P Γ own ops nx En H res/\∃hist:List (List Nat×List Nat),hist.length=ops.size /\
   (∀i o,ops[i]?=some o->hist[i]?=some (touch (opDs (foldS (fun k g=>putE g ((ops[k]?).bind (·.dst)) (res k).1) (fun _=>true) En i) o.op) (foldS (fun k h=>updL h (res k).2) (fun _=>true) H i),(res i).2.map (·.1))) /\
   K (foldS (fun k g=>putE g ((ops[k]?).bind (·.dst)) (res k).1) (fun _=>true) En ops.size) (foldS (fun k h=>updL h (res k).2) (fun _=>true) H ops.size) hist:=by
  intro rest
  induction rest with
  | nil =>
   intro i res hist _ hl hi hg hh hk;simp only[List.length_nil,Nat.add_zero]at hi;subst hi
   exact ⟨res,⟨fun j o ho=>hg j o (Array.getElem?_eq_some_iff.1 ho).1 ho⟩,hist,hl,fun j o ho=>hh j o (Array.getElem?_eq_some_iff.1 ho).1 ho,hk⟩
  | cons o r ih =>
   intro i res hist hr hl hi hg hh hk;have ho:ops[i]?=some o:=by have:=hr 0;simpa using this.symm
   obtain ⟨d,ups,hd,hk⟩:=stepS_gives (show stepS P Γ own (dstL ops.toList) o _ _ _ _ from hk);let res':Nat->D×Ups:=fun k=>if k=i then (d,ups) else res k
   have sameE:∀j,j<=i->foldS (fun k g=>putE g ((ops[k]?).bind (·.dst)) (res' k).1) (fun _=>true) En j=foldS (fun k g=>putE g ((ops[k]?).bind (·.dst)) (res k).1) (fun _=>true) En j:=by
    intro j hj
    induction j with
    | zero=>rfl
    | succ j ihj=>simp only[foldS,if_true,ihj (by omega),res'];rw[if_neg (by omega)]
   have sameH:∀j,j<=i->foldS (fun k h=>updL h (res' k).2) (fun _=>true) H j=foldS (fun k h=>updL h (res k).2) (fun _=>true) H j:=by
    intro j hj
    induction j with
    | zero=>rfl
    | succ j ihj=>simp only[foldS,if_true,ihj (by omega),res'];rw[if_neg (by omega)]
   have same:∀j,j<i->res' j=res j:=fun j hj=>by simp only[res'];rw[if_neg (by omega)]
   have self:res' i=(d,ups):=by simp only[res',if_true]
   simp only[List.length_cons]at hi
   refine ih (i+1) res' (hist++[(touch (opDs (foldS (fun k g=>putE g ((ops[k]?).bind (·.dst)) (res k).1) (fun _=>true) En i) o.op) (foldS (fun k h=>updL h (res k).2) (fun _=>true) H i),ups.map (·.1))])
    (fun k=>by have:=hr (k+1);simpa[Nat.add_assoc,Nat.add_comm 1] using this) (by simp[hl]) (by omega) (fun j oj hj hoj=>?_) (fun j oj hj hoj=>?_) ?_
   .by_cases e:j=i
    .subst e;rw[ho]at hoj;cases hoj;rw[sameE _ (Nat.le_refl _),sameH _ (Nat.le_refl _),self];exact hd
    .rw[sameE j (by omega),sameH j (by omega),same j (by omega)];exact hg j oj (by omega) hoj
   .by_cases e:j=i
    .subst e;rw[ho]at hoj;cases hoj;rw[sameE _ (Nat.le_refl _),sameH _ (Nat.le_refl _),self,List.getElem?_append_right (by omega),hl];simp
    .rw[sameE j (by omega),sameH j (by omega),same j (by omega),List.getElem?_append_left (by omega)];exact hh j oj (by omega) hoj
   .have eE:foldS (fun k g=>putE g ((ops[k]?).bind (·.dst)) (res' k).1) (fun _=>true) En (i+1)=putE (foldS (fun k g=>putE g ((ops[k]?).bind (·.dst)) (res k).1) (fun _=>true) En i) o.dst d:=by
     simp only[foldS,if_true,sameE i (Nat.le_refl _),self,ho,Option.bind_some]
    have eH:foldS (fun k h=>updL h (res' k).2) (fun _=>true) H (i+1)=updL (foldS (fun k h=>updL h (res k).2) (fun _=>true) H i) ups:=by
     simp only[foldS,if_true,sameH i (Nat.le_refl _),self]
    rw[eE,eH,show nx+64*(i+1)=nx+64*i+64 by omega];exact hk
 exact key ops.toList 0 (fun _=>(.top,[])) [] (fun k=>by simp) rfl (by simp) (fun j _ hj=>by omega) (fun j _ hj=>by omega) h
theorem ahead_lt (hst:statOk ops=true) {i j:Nat} (h:ahead' ops i j=true):i<=j:=by
 refine ahead_closed (S:=fun x=>x<=j) (fun k o hk ho e he hb=>?_) h (Nat.le_refl _);have hk':k<ops.size:=(Array.getElem?_eq_some_iff.1 ho).1;have:=List.all_eq_true.1 hst k (by simpa using hk');simp only[ho,Bool.and_eq_true]at this;have:=Array.all_eq_true_iff_forall_mem.1 this.1 e he;simp only[hb,Bool.not_true,Bool.false_or,decide_eq_true_eq]at this;omega
theorem statOk_edge (hst:statOk ops=true) {j:Nat} {o:Oper} (ho:ops[j]?=some o) {e:Edge} (he:e∈o.after) (hb:Region.binds .any e=true):e.on<j:=by
 have hj:j<ops.size:=(Array.getElem?_eq_some_iff.1 ho).1;have:=List.all_eq_true.1 hst j (by simpa using hj);simp only[ho,Bool.and_eq_true]at this;have:=Array.all_eq_true_iff_forall_mem.1 this.1 e he;simpa[hb] using this
theorem statOk_pair (hst:statOk ops=true) {i j:Nat} {oi oj:Oper} (hi:ops[i]?=some oi) (hj:ops[j]?=some oj) (hlt:i<j):ahead' ops i j=true\/oi.apart ops oj=true:=by
 have hj':j<ops.size:=(Array.getElem?_eq_some_iff.1 hj).1;have:=List.all_eq_true.1 hst j (by simpa using hj');simp only[hj,Bool.and_eq_true]at this;have:=List.all_eq_true.1 this.2 i (by simpa using hlt);simp only[hi,Bool.or_eq_true]at this;exact this
theorem chk_spec {nx:Nat} {hist:List (List Nat×List Nat)} (h:chk ops nx hist=true) {i k:Nat} {ti ui tk uk:List Nat} (hi:hist[i]?=some (ti,ui)) (hk:hist[k]?=some (tk,uk)) (hne:i≠k) (h1:ahead' ops i k=false) (h2:ahead' ops k i=false)
 {x:Nat} (hx:x∈uk):x∉ti/\x∉ui/\¬(nx+64*i<=x/\x<nx+64*i+64):=by
 have hil:=(List.getElem?_eq_some_iff.1 hi).1;have hkl:=(List.getElem?_eq_some_iff.1 hk).1
 have nk:uk.isEmpty=false:=by cases uk with
  | nil=>cases hx
  | cons=>rfl
 unfold chk at h;simp only[Bool.or_eq_true]at h;rcases h with h|h
 .have:=List.all_eq_true.1 h _ (List.mem_of_getElem? hk);simp only[nk,Bool.false_eq_true]at this
 .have:=List.all_eq_true.1 h k (by simpa using hkl);simp only[List.getD_eq_getElem?_getD,hk,Option.getD_some,nk]at this;have:=List.all_eq_true.1 this i (by simpa using hil);simp only[hi,Option.getD_some,h1,h2,Bool.or_false,Bool.or_eq_true,beq_iff_eq,hne,false_or]at this;have:=List.all_eq_true.1 this x hx;simp only[Bool.and_eq_true,Bool.not_eq_true',inRange,Bool.and_eq_false_iff,decide_eq_false_iff_not]at this;refine ⟨by simpa using this.1.1,by simpa using this.1.2,fun ⟨a,b⟩=>?_⟩;rcases this.2 with h|h
  .exact h a
  .exact h b
theorem StepG.congr {o:Oper} {nx:Nat} {d:D} {ups:Ups} (h:StepG P Γ own (dstL ops.toList) o En H nx d ups) (he:∀t,t∈o.looksAt ops->En t=En' t) (hh:∀r,r∈touch (opDs En o.op) H->H r=H' r):StepG P Γ own (dstL ops.toList) o En' H' nx d ups:=by
 have hop:∀q,opE Γ own o.op En H nx q=opE Γ own o.op En' H' nx q:=fun q=>opE_congr (fun x hx=>by
  cases x with
  | tmp t=>exact he t (List.mem_append_left _ (List.mem_filterMap.2 ⟨.tmp t,by simpa using hx,rfl⟩))
  | _=>rfl) hh
 obtain ⟨hs,h⟩:=h;refine ⟨hs,?_⟩
 cases hg:o.guard with
 | none=>rw[hg]at h;dsimp only at h ⊢;rw[<-hop];exact h
 | some g =>
  rw[hg]at h;dsimp only at h ⊢
  have hgb:guardB (dstL ops.toList) En g=guardB (dstL ops.toList) En' g:=by
   unfold guardB;rw[dsts_get]
   cases hd:(ops[g.1]?).bind (·.dst) with
   | none=>rfl
   | some t =>
    have:En t=En' t:=he t (List.mem_append_right _ (by rw[hg];simp[hd]));simp only[this]
  rw[<-hgb];obtain ⟨q,h1,h2⟩:=h;refine ⟨q,h1,?_⟩;rw[<-hop];exact h2
theorem foldS_congr {β:Type} {f:Nat->(Nat->β)->Nat->β} {S S':Nat->Bool} {g:Nat->β}:∀ {n:Nat},(∀k,k<n->S k=S' k)->foldS f S g n=foldS f S' g n
 | 0,_=>rfl
 | n+1,h=>by
  have ih:=foldS_congr (f:=f) (g:=g) (n:=n) fun k hk=>h k (by omega);simp only[foldS,h n (by omega),ih]
theorem putE_w {dst:Option Tmp} {d:D} (g:Nat->D) (t:Nat) (h:dst≠some t):putE g dst d t=g t:=by
 cases dst with
 | none=>rfl
 | some t'=>exact Zg _ _ fun e=>h (by rw[e])
theorem putE_f {dst:Option Tmp} {d:D} (g g':Nat->D) (t:Nat) (h:g t=g' t):putE g dst d t=putE g' dst d t:=by
 cases dst with
 | none=>exact h
 | some t'=>simp only[putE,upd];split<;>first|rfl|exact h
theorem region_draw (hΓ:TysOk P Γ) (hmix:P.follows .mixedOrders=true) {N:Nat} {a:Act} {nx:Nat} (hn:Now own0 mt w0 ρ0 N En H nx a w) (hN:dstOk N ops=true) (hst:statOk ops=true) {K:(Nat->D)->(Nat->Option Blk)->Prop}
 (h:goS P Γ own (dstL ops.toList) (fun En' H' hist=>chk ops nx hist=true/\K En' H') nx ops.toList En H [])
 {id:Nat} {Q:Exit->Act->World->Prop} (hQ:∀En' H' a' w',K En' H'->Now own0 mt w0 ρ0 N En' H' (nx+64*ops.size) a' w'->Q .normal a' w'):(Code.region id ops true).wp P Q a w:=by
 obtain ⟨res,ht,hist,hlen,hhist,hchk,hK⟩:=goS_text h;have fEf:∀k (g g':Nat->D) t,g t=g' t->(fun k g=>putE g ((ops[k]?).bind (·.dst)) (res k).1) k g t=(fun k g=>putE g ((ops[k]?).bind (·.dst)) (res k).1) k g' t:=fun k g g' t h=>putE_f g g' t h;have fEw:∀k (g:Nat->D) t,¬((ops[k]?).bind (·.dst)=some t)->(fun k g=>putE g ((ops[k]?).bind (·.dst)) (res k).1) k g t=g t:=fun k g t h=>putE_w g t h;have fHf:∀k (g g':Nat->Option Blk) t,g t=g' t->(fun k h=>updL h (res k).2) k g t=(fun k h=>updL h (res k).2) k g' t:=fun k g g' t h=>updL_same _ h;have fHw:∀k (g:Nat->Option Blk) t,¬(t∈(res k).2.map (·.1))->(fun k h=>updL h (res k).2) k g t=g t:=fun k g t h=>updL_notin fun u hu e=>h (List.mem_map.2 ⟨u,hu,e⟩)
 have hsmall:∀k,k<ops.size->∀x,x∈(res k).2.map (·.1)->x<nx+64*k+64:=fun k hk x hx=>by
  obtain ⟨u,hu,rfl⟩:=List.mem_map.1 hx;exact small_spec (ht.gives k _ (Array.getElem?_eq_getElem hk)).1 hu
 have main:∀(fuel:Nat) (listed:Array Bool) (a:Act) (w:World),listed.size=ops.size->Closed ops (fun k=>listed.getD k false=true)->((List.range ops.size).filter fun k=>!listed.getD k false).length=fuel ->
  (∃ ρ,Rel own0 mt w0 ρ0 N ρ (foldS (fun k g=>putE g ((ops[k]?).bind (·.dst)) (res k).1) (fun k=>listed.getD k false) En ops.size) (foldS (fun k h=>updL h (res k).2) (fun k=>listed.getD k false) H ops.size) a w) ->
  wpAny P .any ops Q fuel listed a w:=by
  intro fuel
  have done:∀(listed:Array Bool) (a:Act) (w:World),listed.size=ops.size->Region.ready .any ops listed=[] ->
   (∃ ρ,Rel own0 mt w0 ρ0 N ρ (foldS (fun k g=>putE g ((ops[k]?).bind (·.dst)) (res k).1) (fun k=>listed.getD k false) En ops.size) (foldS (fun k h=>updL h (res k).2) (fun k=>listed.getD k false) H ops.size) a w)->Q .normal a w:=by
   intro listed a w hsz hr hrel
   have hall:∀j,j<ops.size->listed.getD j false=true:=by
    intro j
    induction j using Nat.strongRecOn with
    | _ j ih =>
     intro hj
     cases hl:listed.getD j false with
     | true=>rfl
     | false =>
      have:j∈Region.ready .any ops listed:=by
       refine mem_ready.2 ⟨?_,ops[j],Array.getElem?_eq_getElem hj,fun e he hb=>?_⟩
       .rw[Array.getD_eq_getD_getElem?]at hl ⊢;rw[Array.getElem?_eq_getElem (by omega)]at hl ⊢;simpa using hl
       .have:=statOk_edge hst (Array.getElem?_eq_getElem hj) he hb;exact ih _ this (by omega)
      rw[hr]at this;cases this
   have e1:=foldS_congr (f:=fun k g=>putE g ((ops[k]?).bind (·.dst)) (res k).1) (S:=fun k=>listed.getD k false) (S':=fun _=>true) (g:=En) (n:=ops.size) hall;have e2:=foldS_congr (f:=fun k h=>updL h (res k).2) (S:=fun k=>listed.getD k false) (S':=fun _=>true) (g:=H) (n:=ops.size) hall;rw[e1,e2]at hrel;refine hQ _ _ _ _ hK ⟨hrel,fun j hj=>?_⟩;rw[foldS_skip (W:=fun k t=>t∈(res k).2.map (·.1)) (a:=0) fHw (by omega) fun k _ hk hw=>by have:=hsmall k hk j hw;omega];exact hn.fresh j (by omega)
  induction fuel with
  | zero =>
   intro listed a w hsz hcl hcnt hrel
   have hr:Region.ready .any ops listed=[]:=by
    cases hr:Region.ready .any ops listed with
    | nil=>rfl
    | cons i r =>
     have hi:i∈Region.ready .any ops listed:=by rw[hr];simp
     obtain ⟨h0,o,ho,_⟩:=mem_ready.1 hi;have hlt:=(Array.getElem?_eq_some_iff.1 ho).1
     have:i∈(List.range ops.size).filter fun k=>!listed.getD k false:=by
      rw[List.mem_filter];refine ⟨by simpa using hlt,?_⟩;rw[Array.getD_eq_getD_getElem?]at h0 ⊢;rw[Array.getElem?_eq_getElem (by omega)]at h0 ⊢;simpa using h0
     rw[List.length_eq_zero_iff]at hcnt;rw[hcnt]at this;cases this
   exact ⟨hr,done listed a w hsz hr hrel⟩
  | succ fuel ih =>
   intro listed a w hsz hcl hcnt hrel;refine ⟨fun hr=>done listed a w hsz hr hrel,fun i hi=>?_⟩;obtain ⟨h0,o,ho,hedges⟩:=mem_ready.1 hi;have hlt:=(Array.getElem?_eq_some_iff.1 ho).1
   have hiS:listed.getD i false=false:=by
    rw[Array.getD_eq_getD_getElem?]at h0 ⊢;rw[Array.getElem?_eq_getElem (by omega)]at h0 ⊢;simpa using h0
   have hcl':Closed ops (fun k=>k=i\/listed.getD k false=true):=by
    rintro j oj (rfl|hj) hoj e he hb
    .rw[ho]at hoj;cases hoj;exact .inr (hedges e he hb)
    .exact .inr (hcl j oj hj hoj e he hb)
   have before:∀k,k≠i->ahead' ops k i=true->listed.getD k false=true:=fun k hk h=>by
    rcases ahead_closed hcl' h (.inl rfl) with e|h
    .exact absurd e hk
    .exact h
   have behind:∀k,ahead' ops i k=true->listed.getD k false=false:=fun k h=>by
    cases hl:listed.getD k false with
    | false=>rfl
    | true=>have:=ahead_closed hcl h hl;rw[hiS]at this;cases this
   have temps:∀t,t∈o.looksAt ops->(∀k,k<i->(ops[k]?).bind (·.dst)=some t->listed.getD k false=true)/\∀k,i<=k->k<ops.size->(ops[k]?).bind (·.dst)=some t->listed.getD k false=false:=by
    intro t htl;constructor
    .intro k hk hw
     cases hok:ops[k]? with
     | none=>rw[hok]at hw;cases hw
     | some ok =>
      rw[hok]at hw;rcases statOk_pair hst hok ho hk with h|h
      .exact before k (by omega) h
      .exact absurd htl ((Oper.apart_spec h).1 t hw)
    .intro k hk hkn hw;by_cases e:k=i
     .subst e;exact hiS
     .cases hok:ops[k]? with
      | none=>rw[hok]at hw;cases hw
      | some ok =>
       rw[hok]at hw;rcases statOk_pair hst ho hok (by omega) with h|h
       .exact behind k h
       .exact absurd htl ((Oper.apart_spec h).2.2 t hw)
   have hhi:=hhist i o ho
   have unrel:∀k,k<ops.size->k≠i->ahead' ops i k=false->ahead' ops k i=false->∀x,x∈(res k).2.map (·.1) ->
    x∉touch (opDs (foldS (fun k g=>putE g ((ops[k]?).bind (·.dst)) (res k).1) (fun _=>true) En i) o.op) (foldS (fun k h=>updL h (res k).2) (fun _=>true) H i)/\x∉(res i).2.map (·.1)/\¬(nx+64*i<=x/\x<nx+64*i+64):=by
    intro k hk hne h1 h2 x hx;exact chk_spec hchk hhi (hhist k _ (Array.getElem?_eq_getElem hk)) (fun e=>hne e.symm) h1 h2 hx
   have blks:∀x,x∈touch (opDs (foldS (fun k g=>putE g ((ops[k]?).bind (·.dst)) (res k).1) (fun _=>true) En i) o.op) (foldS (fun k h=>updL h (res k).2) (fun _=>true) H i) ->
    (∀k,k<i->x∈(res k).2.map (·.1)->listed.getD k false=true)/\∀k,i<=k->k<ops.size->x∈(res k).2.map (·.1)->listed.getD k false=false:=by
    intro x hx;constructor
    .intro k hk hw
     cases h2:ahead' ops k i with
     | true=>exact before k (by omega) h2
     | false =>
      cases h1:ahead' ops i k with
      | true=>have:=ahead_lt hst h1;omega
      | false=>exact absurd hx (unrel k (by omega) (by omega) h1 h2 x hw).1
    .intro k hk hkn hw;by_cases e:k=i
     .subst e;exact hiS
     .cases h1:ahead' ops i k with
      | true=>exact behind k h1
      | false =>
       cases h2:ahead' ops k i with
       | true=>have:=ahead_lt hst h2;omega
       | false=>exact absurd hx (unrel k hkn e h1 h2 x hw).1
   obtain ⟨ρ,hrel⟩:=hrel
   have hg:=(ht.gives i o ho).congr (En':=foldS (fun k g=>putE g ((ops[k]?).bind (·.dst)) (res k).1) (fun k=>listed.getD k false) En ops.size) (H':=foldS (fun k h=>updL h (res k).2) (fun k=>listed.getD k false) H ops.size)
    (fun t htl=>(foldS_agree (W:=fun k t=>(ops[k]?).bind (·.dst)=some t) fEf fEw (by omega) (temps t htl).1 (temps t htl).2).symm)
    (fun x hx=>(foldS_agree (W:=fun k t=>t∈(res k).2.map (·.1)) fHf fHw (by omega) (blks x hx).1 (blks x hx).2).symm)
   refine step_run hΓ hrel ho (fun t htt=>dstOk_spec hN ho htt) (fun j hj1 hj2=>?_) hg _ Q fun ρ' a' w' hrel'=>?_
   .rw[foldS_skip (W:=fun k t=>t∈(res k).2.map (·.1)) (a:=0) fHw (by omega) fun k _ hk hw=>?_]
    .exact hn.fresh j (by omega)
    .by_cases e:k=i
     .subst e;exact hiS
     .by_cases hki:k<i
      .have:=hsmall k hk j hw;omega
      .cases h1:ahead' ops i k with
       | true=>exact behind k h1
       | false =>
        cases h2:ahead' ops k i with
        | true=>have:=ahead_lt hst h2;omega
        | false=>exact absurd ⟨hj1,hj2⟩ (unrel k hk e h1 h2 j hw).2.2
   .have hset:∀k,k<ops.size->(listed.setIfInBounds i true).getD k false=(k == i || listed.getD k false):=fun k hk=>by
     by_cases e:k=i
     .subst e;simp only[beq_self_eq_true,Bool.true_or];rw[Array.getD_eq_getD_getElem?,Array.getElem?_setIfInBounds_self_of_lt (by omega)];rfl
     .have:(k == i)=false:=by simp[e]
      rw[getD_set_ne false fun h=>e h.symm,this,Bool.false_or]
    refine ih (listed.setIfInBounds i true) a' w' (by simpa using hsz) (fun j oj hj hoj e he hb=>?_) ?_ ⟨ρ',?_⟩
    .have hjn:=(Array.getElem?_eq_some_iff.1 hoj).1;have hj:(listed.setIfInBounds i true).getD j false=true:=hj;show (listed.setIfInBounds i true).getD e.on false=true;rw[hset j hjn]at hj;have hon:=statOk_edge hst hoj he hb;rw[hset _ (by omega)];have:j=i\/listed.getD j false=true:=by simpa using hj
     have:=hcl' j oj this hoj e he hb;simpa using this
    .have hfil:(List.range ops.size).filter (fun k=>!(listed.setIfInBounds i true).getD k false)=((List.range ops.size).filter fun k=>!listed.getD k false).erase i:=by
      rw[List.Nodup.erase_eq_filter (List.Nodup.sublist List.filter_sublist List.nodup_range),List.filter_filter];refine List.filter_congr fun k hk=>?_;rw[hset k (by simpa using hk)];cases h1:(k == i)<;>cases h2:listed.getD k false<;>simp_all
     rw[hfil,List.length_erase_of_mem (by rw[List.mem_filter];exact ⟨by simpa using hlt,by rw[hiS];rfl⟩),hcnt];omega
    .have e1:foldS (fun k g=>putE g ((ops[k]?).bind (·.dst)) (res k).1) (fun k=>(listed.setIfInBounds i true).getD k false) En ops.size=putE (foldS (fun k g=>putE g ((ops[k]?).bind (·.dst)) (res k).1) (fun k=>listed.getD k false) En ops.size) o.dst (res i).1:=by
      rw[foldS_congr hset,foldS_put (W:=fun k t=>(ops[k]?).bind (·.dst)=some t) fEf fEw hlt hiS fun t hw k hk hkn hwk=>?_]
      .simp only[ho,Option.bind_some]
      .cases hok:ops[k]? with
       | none=>rw[hok]at hwk;cases hwk
       | some ok =>
        rw[hok]at hwk;rw[ho]at hw;rcases statOk_pair hst ho hok hk with h|h
        .exact behind k h
        .exact absurd hwk ((Oper.apart_spec h).2.1 t hw)
     have e2:foldS (fun k h=>updL h (res k).2) (fun k=>(listed.setIfInBounds i true).getD k false) H ops.size=updL (foldS (fun k h=>updL h (res k).2) (fun k=>listed.getD k false) H ops.size) (res i).2:=by
      rw[foldS_congr hset,foldS_put (W:=fun k t=>t∈(res k).2.map (·.1)) fHf fHw hlt hiS fun t hw k hk hkn hwk=>?_]
      cases h1:ahead' ops i k with
      | true=>exact behind k h1
      | false =>
       cases h2:ahead' ops k i with
       | true=>have:=ahead_lt hst h2;omega
       | false=>exact absurd hw (unrel k hkn (by omega) h1 h2 t hwk).2.1
     rw[e1,e2];exact hrel'
 refine wp_region_any hmix ?_;obtain ⟨ρ,hrel⟩:=hn.rel
 have nostep:∀k,(Array.replicate ops.size false).getD k false=false:=fun k=>by
  rw[Array.getD_eq_getD_getElem?,Array.getElem?_replicate]
  split<;>rfl
 refine main ops.size _ a _ (by simp) (fun j o hj=>by have hj:(Array.replicate ops.size false).getD j false=true:=hj;rw[nostep]at hj;cases hj) ?_ ⟨ρ,?_⟩
 .have:(List.range ops.size).filter (fun k=>!(Array.replicate ops.size false).getD k false)=List.range ops.size:=List.filter_eq_self.2 fun k _=>by rw[nostep];rfl
  rw[this];simp
 .have z:∀ {β:Type} (f:Nat->(Nat->β)->Nat->β) (g:Nat->β),foldS f (fun k=>(Array.replicate ops.size false).getD k false) g ops.size=g:=fun f g=>by
   rw[foldS_congr (S':=fun _=>false) fun k _=>nostep k]
   induction ops.size with
   | zero=>rfl
   | succ n ih=>simp only[foldS];exact ih
  rw[z,z];have hs:=Step.drew hrel.mem;exact ⟨hrel.defers,hrel.base,hrel.size,fun t=>hs.rep (hrel.tmps t),hs.mem⟩
end
end Eng
end Go.Proofs.YtgenjpingdkmgaaGreatDoor
