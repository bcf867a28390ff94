/- Contracts of functions that this seat's law calls. No condition. -/
import Derived.Test.YtgenjpingdkmgaaGreatDoorG14
set_option maxRecDepth 100000
set_option linter.unusedSimpArgs false
set_option linter.unusedVariables false
open Go.Proofs.Tryz
namespace Go.Proofs.YtgenjpingdkmgaaGreatDoor
namespace Eng
abbrev wC (w:Int×Int):List C:=[.v (vI w.1),.v (vI w.2)]
abbrev wD (w:Int×Int):D:=.e (.a (wC w))
def addW (a b:Int×Int):Int×Int:=(a.1+b.1,a.2+b.2)
def sideW (b:Bool) (q:Int):Int×Int:=if b then (q,0) else (0,q)
def okW (w:Int×Int):Prop:=-4000000000000000000<=w.1/\w.1<=4000000000000000000/\-4000000000000000000<=w.2/\w.2<=4000000000000000000
theorem neg_w (x:Int) (h:-9223372036854775807<=x) (h2:x<=9223372036854775807):IntKind.i64.wrap (-x)=-x:=Zn _ (by omega) (by omega)
def qEX1:=PLift.up (An @Z0 (An @Zh (An @NO.Ze (An @neg_w @List.take_length.{0}))))
theorem Zv (b:Bool) (q:Int):ACall prog 72 [] [B b,I q] (wD (sideW b q)) []:=by
 have hb1:True:=trivial;have hb2:True:=trivial;have hb3:True:=trivial;have hb4:True:=trivial;refine Ac func72 ?_;cases b
 .refine Wk (An @hb1 (An @hb2 (An @hb3 (An @hb4 qEX1.1)))) trivial ?_;refine Cb ?_ ?_<;>intro hc<;>(try exact ⟨⟩)
  .contradiction
  .refine Wk (An @hb1 (An @hb2 (An @hb3 (An @hb4 qEX1.1)))) trivial ?_;refine Fn @results72 (An @hb1 (An @hb2 (An @hb3 (An @hb4 qEX1.1)))) ?_;try exact ⟨⟩
   exact ⟨rfl,rfl⟩
 .refine Wk (An @hb1 (An @hb2 (An @hb3 (An @hb4 qEX1.1)))) trivial ?_;refine Cb ?_ ?_<;>intro hc<;>(try exact ⟨⟩)
  .refine Wk (An @hb1 (An @hb2 (An @hb3 (An @hb4 qEX1.1)))) trivial ?_;refine Fn @results72 (An @hb1 (An @hb2 (An @hb3 (An @hb4 qEX1.1)))) ?_;try exact ⟨⟩
   exact ⟨rfl,rfl⟩
  .contradiction
theorem plus_c (a b:Int×Int) (ha:okW a) (hb:okW b):ACall prog 71 [] [wD a,wD b] (wD (addW a b)) []:=by
 unfold okW at ha hb;have hb1:=Zn (a.1+b.1) (by omega) (by omega);have hb2:=Zn (a.2+b.2) (by omega) (by omega);have hb3:True:=trivial;have hb4:True:=trivial;refine Ac func71 ?_;refine Wk (An @hb1 (An @hb2 (An @hb3 (An @hb4 qEX1.1)))) trivial ?_;refine Fn @results71 (An @hb1 (An @hb2 (An @hb3 (An @hb4 qEX1.1)))) ?_;try exact ⟨⟩
 exact ⟨rfl,rfl⟩
def finB (b:Bk) (f:Fil):Bool:=decide (10<b.clock - f.time)
theorem final_c (b:Bk) (f:Fil) (hc:0<=b.clock/\b.clock<=4611686018427387904) (hf:0<=f.time/\f.time<=b.clock) (r:Bool) (hr:finB b f=r):ACall prog 73 [] [bkD b,fD f] (B r) []:=by
 have hb1:=Zn (b.clock - f.time) (by omega) (by omega);have hb2:True:=trivial;have hb3:True:=trivial;have hb4:True:=trivial;refine Ac func73 ?_;refine Wk (An @hb1 (An @hb2 (An @hb3 (An @hb4 qEX1.1)))) trivial ?_;refine Cb ?_ ?_<;>intro hc<;>(try exact ⟨⟩)
 .omega
 .refine Wk (An @hb1 (An @hb2 (An @hb3 (An @hb4 qEX1.1)))) trivial ?_;subst hr;refine Fn @results73 (An @hb1 (An @hb2 (An @hb3 (An @hb4 qEX1.1)))) ?_;try exact ⟨⟩
  rfl
def sumW (l:List (Int×Int)):Int×Int:=l.foldl addW (0,0)
theorem sumW_snoc (l:List (Int×Int)) (x:Int×Int):sumW (l++[x])=addW (sumW l) x:=by simp[sumW]
theorem foldW (l:List (Int×Int)):∀a,l.foldl addW a=addW a (sumW l):=by
 induction l with
 | nil=>intro a;simp[sumW,addW]
 | cons x l ih =>
  intro a;have h1:=ih (addW a x);have h2:=ih (addW (0,0) x);rw[sumW,List.foldl_cons,List.foldl_cons,h1,h2];simp only[addW,Prod.mk.injEq];omega
theorem sumW_cons (x:Int×Int) (l:List (Int×Int)):sumW (x::l)=addW x (sumW l):=by
 rw[sumW,List.foldl_cons,foldW];simp[addW]
theorem sumW_take {α:Type} [Inhabited α] (f:α->Int×Int) (l:List α) (i:Nat) (h:i<l.length):sumW ((l.take (i+1)).map f)=addW (sumW ((l.take i).map f)) (f (l.getD i default)):=by
 rw[List.take_add_one,List.map_append,List.getElem?_eq_getElem h,List.getD_eq_getElem?_getD,List.getElem?_eq_getElem h];exact sumW_snoc _ _
theorem sumW_le (m:Nat) (l:List (Int×Int)) (h:∀x,x∈l->-(m:Int)<=x.1/\x.1<=m/\-(m:Int)<=x.2/\x.2<=m):-((l.length*m:Nat):Int)<=(sumW l).1/\(sumW l).1<=(l.length*m:Nat)/\-((l.length*m:Nat):Int)<=(sumW l).2/\(sumW l).2<=(l.length*m:Nat):=by
 induction l with
 | nil=>simp[sumW]
 | cons x l ih =>
  have h1:=h x (List.mem_cons_self ..);have h2:=ih fun y hy=>h y (List.mem_cons_of_mem _ hy);rw[sumW_cons,List.length_cons,Nat.succ_mul];simp only[addW];omega
def hitW (acc sym:ByteArray) (a s:ByteArray):Bool:=(a.data.toList == acc.data.toList) && (s.data.toList == sym.data.toList)
def pndW (acc sym:ByteArray) (o:Ord):Int×Int:=if hitW acc sym o.acc o.sym then sideW o.buy (o.qty - o.done) else (0,0)
def ordW (acc sym:ByteArray) (o:Ord):Int×Int:=if hitW acc sym o.acc o.sym then sideW o.buy (NO.leftI o) else (0,0)
def filW (b:Bk) (acc sym:ByteArray) (f:Fil):Int×Int :=
 if f.lv && hitW acc sym f.acc f.sym then (if finB b f then addW (sideW f.buy f.qty) (sideW (!f.buy) (-f.qty)) else sideW f.buy f.qty) else (0,0)
def pendW (l:List Ord) (acc sym:ByteArray):Int×Int:=sumW (l.map (pndW acc sym))
def ofW (b:Bk) (acc sym:ByteArray):Int×Int:=addW (sumW (b.fills.map (filW b acc sym))) (sumW (b.ords.map (ordW acc sym)))
theorem hit_t {a b:ByteArray} {c d:ByteArray}:hitW a b c d=true↔(c.data.toList=a.data.toList/\d.data.toList=b.data.toList):=by simp[hitW]
theorem okW_of (n m:Nat) (w:Int×Int) (h:-((n*m:Nat):Int)<=w.1/\w.1<=(n*m:Nat)/\-((n*m:Nat):Int)<=w.2/\w.2<=(n*m:Nat)) (hn:n<=300) (hm:m<=10000000000000):okW w:=by
 have:n*m<=300*10000000000000:=Nat.mul_le_mul hn hm;unfold okW;omega
theorem sumW_ok {α:Type} (f:α->Int×Int) (l:List α) (n:Nat) (hl:l.length<=300) (h:∀x,x∈l->-4000000000000<=(f x).1/\(f x).1<=4000000000000/\-4000000000000<=(f x).2/\(f x).2<=4000000000000):okW (sumW ((l.take n).map f)):=by
 refine okW_of (l.take n).length 4000000000000 _ ?_ (by rw[List.length_take];omega) (by decide)
 have:=sumW_le 4000000000000 ((l.take n).map f) fun x hx=>by
  obtain ⟨y,hy,rfl⟩:=List.mem_map.1 hx;exact h y (List.mem_of_mem_take hy)
 rwa [List.length_map]at this
theorem may_rng {o:Ord} (h:NO.mayB o=true):0<=o.qty - o.done/\o.qty - o.done<=1099511627776:=by
 have:=NO.mayB_spec h;omega
theorem pnd_rng {a s:ByteArray} {o:Ord} (h:NO.mayB o=true):-4000000000000<=(pndW a s o).1/\(pndW a s o).1<=4000000000000/\-4000000000000<=(pndW a s o).2/\(pndW a s o).2<=4000000000000:=by
 have:=may_rng h;unfold pndW sideW
 split
 .split<;>(dsimp only;omega)
 .dsimp only;omega
theorem getD_memO {l:List Ord} {i:Nat} (h:i<l.length):l.getD i default∈l:=by
 rw[List.getD_eq_getElem?_getD,List.getElem?_eq_getElem h];exact List.getElem_mem h
theorem mem_may {l:List Ord} (h:NO.rightB l=true):∀o,o∈l->NO.mayB o=true:=by
 intro o ho;obtain ⟨i,hi,rfl⟩:=List.getElem_of_mem ho;have:=((NO.Zy.1 h).2 i hi).1
 rwa [List.getD_eq_getElem?_getD,List.getElem?_eq_getElem hi]at this
theorem okW_side (b:Bool) (q:Int) (h:-4000000000000<=q/\q<=4000000000000):okW (sideW b q):=by
 unfold okW sideW
 split<;>(dsimp only;omega)
theorem addW_0 (w:Int×Int):addW w (0,0)=w:=by simp[addW]
theorem pend_c (l:List Ord) (acc sym:ByteArray) (h:NO.rightB l=true):ACall prog 114 [] [NO.osD l,StD acc,StD sym] (wD (pendW l acc sym)) []:=by
 have hright:ACall prog 100 [] [NO.osD l] (B true) []:=by rw[<-h];exact NO.right_c l
 have hl:=(NO.Zy.1 h).1;refine Ac func114 ?_;refine Wk qEX1.1 (An @hright @Zv) ?_;refine Cb ?_ ?_<;>intro hc<;>(try exact ⟨⟩)
 .contradiction
 .refine Wk qEX1.1 (An @hright @Zv) ?_
  refine AWp.loop (fun i:Nat=>mkSt [(1,StD acc),(2,StD sym),(6,.p 0 0),(7,.p 1 0),(14,NO.osD l),(15,I l.length),(16,I i)] [(0,.loc (wC (0,0))),(1,.loc (wC (sumW ((l.take i).map (pndW acc sym)))))] 2)
   (fun i=>i<=l.length) (fun i=>l.length - i) 0 (Nat.zero_le _) (by refine Le.of (τ:=[(1,256)]) (ν:=[]) (by kernel_rfl) ?_ ?_<;>((refine Lw qEX1.1 ?_;try exact ⟨⟩);try (first|omega|rfl|exact ⟨rfl,rfl⟩))) fun i hi=>?_
  refine Wk qEX1.1 (An @hright @Zv) ?_;refine Cb ?_ ?_<;>intro hc<;>(try exact ⟨⟩)
  .have hil:i<l.length:=by omega
   have hmay:=mem_may h _ (getD_memO hil);have hr:=may_rng hmay;have hs:=sumW_take (pndW acc sym) l i hil;have hok:=sumW_ok (pndW acc sym) l i (by omega) fun o ho=>pnd_rng (mem_may h o ho);generalize ho:l.getD i default=o at hmay hr hs;refine Wk (An @ho (An @hs qEX1.1)) (An @hright @Zv) ?_;refine Cb ?_ ?_<;>intro hc<;>(try exact ⟨⟩)
   .have e:pndW acc sym o=sideW o.buy (o.qty - o.done):=by unfold pndW;rw[if_pos (hit_t.2 hc)]
    rw[e]at hs;have hb1:=Zn (o.qty - o.done) (by omega) (by omega);have hb2:=hs;have hplus:=plus_c (sumW ((l.take i).map (pndW acc sym))) (sideW o.buy (o.qty - o.done)) hok (okW_side _ _ (by omega));refine Wk (An @hb1 (An @hb2 (An @ho (An @hs qEX1.1)))) (An @hright (An @hplus @Zv)) ?_;refine Za (i+1) (show i+1<=l.length by omega) (by omega) (by refine Le.of (τ:=[]) (ν:=[]) (by kernel_rfl) ?_ ?_<;>((refine Lw (An @hb1 (An @hb2 (An @ho (An @hs qEX1.1)))) ?_;try exact ⟨⟩);try (first|omega|rfl)))
   .have e:pndW acc sym o=(0,0):=by unfold pndW;rw[if_neg (fun h=>hc.elim (fun n=>n (hit_t.1 h).1) (fun n=>n (hit_t.1 h).2))]
    rw[e,addW_0]at hs;have hb2:=hs;refine Wk (An @hb2 (An @ho (An @hs qEX1.1))) (An @hright @Zv) ?_;refine Za (i+1) (show i+1<=l.length by omega) (by omega) (by refine Le.of (τ:=[]) (ν:=[]) (by kernel_rfl) ?_ ?_<;>((refine Lw (An @hb2 (An @ho (An @hs qEX1.1))) ?_;try exact ⟨⟩);try (first|omega|rfl)))
  .have e:i=l.length:=by omega
   subst e;refine Wk qEX1.1 (An @hright @Zv) ?_;refine Fn @results114 qEX1.1 ?_;try exact ⟨⟩
   exact ⟨rfl,rfl⟩
def smW (m:Int) (w:Int×Int):Prop:=-m<=w.1/\w.1<=m/\-m<=w.2/\w.2<=m
theorem sumW_sm {α:Type} (f:α->Int×Int) (l:List α) (n:Nat) (hl:l.length<=300) (h:∀x,x∈l->smW 4000000000000 (f x)):smW 1200000000000000 (sumW ((l.take n).map f)):=by
 have h1:=sumW_le 4000000000000 ((l.take n).map f) fun x hx=>by
  obtain ⟨y,hy,rfl⟩:=List.mem_map.1 hx;exact h y (List.mem_of_mem_take hy)
 rw[List.length_map,List.length_take]at h1;have:min n l.length*4000000000000<=300*4000000000000:=Nat.mul_le_mul (by omega) (Nat.le_refl _);unfold smW;omega
theorem sm_ok {m:Int} {w:Int×Int} (h:smW m w) (hm:m<=4000000000000000000):okW w:=by unfold smW at h;unfold okW;omega
theorem sm_side (b:Bool) (q:Int) (h:-1100000000000<=q/\q<=1100000000000):smW 1100000000000 (sideW b q):=by
 unfold smW sideW
 split<;>(dsimp only;omega)
theorem sm_add {m n:Int} {a b:Int×Int} (ha:smW m a) (hb:smW n b):smW (m+n) (addW a b):=by
 unfold smW at ha hb ⊢;unfold addW;dsimp only;omega
theorem sm_le {m n:Int} {a:Int×Int} (ha:smW m a) (h:m<=n):smW n a:=by unfold smW at ha ⊢;omega
theorem amt_rng {n:Int} (h:NO.amountB n=true):0<=n/\n<=1099511627776:=NO.amountB_spec.1 h
theorem fil_sm {b:Bk} {a s:ByteArray} {f:Fil} (h:NO.amountB f.qty=true):smW 4000000000000 (filW b a s f):=by
 have:=amt_rng h;unfold filW
 split
 .split
  .exact sm_le (sm_add (sm_side f.buy f.qty (by omega)) (sm_side (!f.buy) (-f.qty) (by omega))) (by decide)
  .exact sm_le (sm_side f.buy f.qty (by omega)) (by decide)
 .unfold smW;dsimp only;omega
theorem ord_sm {a s:ByteArray} {o:Ord}:smW 4000000000000 (ordW a s o):=by
 have:=NO.leftI_le o;unfold ordW
 split
 .exact sm_le (sm_side o.buy _ (by omega)) (by decide)
 .unfold smW;dsimp only;omega
theorem of_c (b:Bk) (acc sym:ByteArray) (h:bkP b):ACall prog 25 [] [bkD b,StD acc,StD sym] (wD (ofW b acc sym)) []:=by
 have hright:=bkRight_c b h;have hfl:=h.fl;have hol:=(NO.Zy.1 h.ords).1;refine Ac func25 ?_;refine Wk qEX1.1 (An @hright @Zv) ?_;refine Cb ?_ ?_<;>intro hc<;>(try exact ⟨⟩)
 .contradiction
 .refine Wk qEX1.1 (An @hright @Zv) ?_
  refine AWp.loop (fun i:Nat=>mkSt [(1,StD acc),(2,StD sym),(3,.p 0 0),(6,.p 1 0),(7,.p 2 0),(17,fsD b.fills),(18,I b.fills.length),(19,I i)] [(0,.loc (bkC b)),(1,.loc (wC (0,0))),(2,.loc (wC (sumW ((b.fills.take i).map (filW b acc sym)))))] 3)
   (fun i=>i<=b.fills.length) (fun i=>b.fills.length - i) 0 (Nat.zero_le _) (by refine Le.of (τ:=[(1,64),(2,320)]) (ν:=[]) (by kernel_rfl) ?_ ?_<;>((refine Lw qEX1.1 ?_;try exact ⟨⟩);try (first|omega|rfl|exact ⟨rfl,rfl⟩))) fun i hi=>?_
  refine Wk qEX1.1 (An @hright @Zv) ?_;refine Cb ?_ ?_<;>intro hc<;>(try exact ⟨⟩)
  .have hil:i<b.fills.length:=by omega
   obtain ⟨hq,hp,ht0,ht1,hm⟩:=h.fills _ (getD_memF hil);have hqr:=amt_rng hq;have hz:=sumW_take (filW b acc sym) b.fills i hil;have hsm:=sumW_sm (filW b acc sym) b.fills i (by omega) fun f hf=>fil_sm (h.fills f hf).1;generalize hof:b.fills.getD i default=f at hq hp ht0 ht1 hm hqr hz;have hfin:=final_c b f h.clock ⟨ht0,ht1⟩ _ rfl;generalize hS:sumW ((b.fills.take i).map (filW b acc sym))=S at hz hsm;refine Wk (An @hof (An @hS qEX1.1)) (An @hright (An @hfin @Zv)) ?_;refine Cb ?_ ?_<;>intro hc<;>(try exact ⟨⟩)
   .have e:filW b acc sym f=(0,0):=by
     unfold filW;rw[if_neg];rw[Bool.and_eq_true,hit_t];rintro ⟨h1,h2,h3⟩;rcases hc with (hc|hc)|hc
     .simp[h1]at hc
     .exact hc h2
     .exact hc h3
    have hs:=hz;rw[e,addW_0]at hs;refine Wk (An @hof (An @hS (An @hs qEX1.1))) (An @hright (An @hfin @Zv)) ?_;refine Za (i+1) (show i+1<=b.fills.length by omega) (by omega) (by refine Le.of (τ:=[]) (ν:=[]) (by kernel_rfl) ?_ ?_<;>((refine Lw (An @hof (An @hS (An @hs qEX1.1))) ?_;try exact ⟨⟩);try (first|omega|rfl)))
   .have hplus:=plus_c S (sideW f.buy f.qty) (sm_ok hsm (by decide)) (sm_ok (sm_side f.buy f.qty (by omega)) (by decide))
    have hh:(f.lv && hitW acc sym f.acc f.sym)=true:=by
     rw[Bool.and_eq_true,hit_t];exact ⟨by simpa using hc.1.1,by simpa using hc.1.2,by simpa using hc.2⟩
    refine Wk (An @hof (An @hS qEX1.1)) (An @hright (An @hplus (An @hfin @Zv))) ?_;refine Cb ?_ ?_<;>intro hc<;>(try exact ⟨⟩)
    .have hb1:=Int.zero_sub f.qty;have hplus2:=plus_c (addW S (sideW f.buy f.qty)) (sideW (!f.buy) (-f.qty)) (sm_ok (sm_add hsm (sm_side f.buy f.qty (by omega))) (by decide)) (sm_ok (sm_side (!f.buy) (-f.qty) (by omega)) (by decide));have e:filW b acc sym f=addW (sideW f.buy f.qty) (sideW (!f.buy) (-f.qty)):=by unfold filW;rw[if_pos hh,if_pos hc]
     have hb2:sumW ((b.fills.take (i+1)).map (filW b acc sym))=addW (addW S (sideW f.buy f.qty)) (sideW (!f.buy) (-f.qty)):=by rw[hz,e];simp only[addW,Prod.mk.injEq];omega
     refine Wk (An @hb1 (An @hb2 (An @hof (An @hS qEX1.1)))) (An @hright (An @hplus (An @hplus2 (An @hfin @Zv)))) ?_;refine Za (i+1) (show i+1<=b.fills.length by omega) (by omega) (by refine Le.of (τ:=[]) (ν:=[]) (by kernel_rfl) ?_ ?_<;>((refine Lw (An @hb1 (An @hb2 (An @hof (An @hS qEX1.1)))) ?_;try exact ⟨⟩);try (first|omega|rfl)))
    .have e:filW b acc sym f=sideW f.buy f.qty:=by unfold filW;rw[if_pos hh,if_neg (by rw[hc];decide)]
     have hb2:sumW ((b.fills.take (i+1)).map (filW b acc sym))=addW S (sideW f.buy f.qty):=by rw[hz,e]
     refine Wk (An @hb2 (An @hof (An @hS qEX1.1))) (An @hright (An @hplus (An @hfin @Zv))) ?_;refine Za (i+1) (show i+1<=b.fills.length by omega) (by omega) (by refine Le.of (τ:=[]) (ν:=[]) (by kernel_rfl) ?_ ?_<;>((refine Lw (An @hb2 (An @hof (An @hS qEX1.1))) ?_;try exact ⟨⟩);try (first|omega|rfl)))
  .have e:i=b.fills.length:=by omega
   subst e;have hsm:=sumW_sm (filW b acc sym) b.fills b.fills.length (by omega) fun f hf=>fil_sm (h.fills f hf).1;rw[List.take_length]at hsm;generalize hS:sumW (b.fills.map (filW b acc sym))=S at hsm;refine Wk (An @hS qEX1.1) (An @hright @Zv) ?_
   refine AWp.loop (fun i:Nat=>mkSt [(1,StD acc),(2,StD sym),(6,.p 0 0),(7,.p 1 0),(59,NO.osD b.ords),(60,I b.ords.length),(61,I i)] [(0,.loc (wC (0,0))),(1,.loc (wC (addW S (sumW ((b.ords.take i).map (ordW acc sym))))))] 2)
    (fun i=>i<=b.ords.length) (fun i=>b.ords.length - i) 0 (Nat.zero_le _) (by refine Le.of (τ:=[(0,1),(1,2)]) (ν:=[]) (by kernel_rfl) ?_ ?_<;>((refine Lw (An @hS qEX1.1) ?_;try exact ⟨⟩);try (first|omega|rfl|exact ⟨by simp[addW,sumW],by simp[addW,sumW]⟩))) fun i hi=>?_
   refine Wk (An @hS qEX1.1) (An @hright @Zv) ?_;refine Cb ?_ ?_<;>intro hc<;>(try exact ⟨⟩)
   .have hil:i<b.ords.length:=by omega
    have hz:=sumW_take (ordW acc sym) b.ords i hil;have hsm2:=sumW_sm (ordW acc sym) b.ords i (by omega) fun o _=>ord_sm;generalize ho:b.ords.getD i default=o at hz;have hlr:=NO.leftI_le o;have hleft:=NO.Zs o;generalize hS2:sumW ((b.ords.take i).map (ordW acc sym))=S2 at hz hsm2;refine Wk (An @ho (An @hS (An @hS2 qEX1.1))) (An @hright (An @hleft @Zv)) ?_;refine Cb ?_ ?_<;>intro hc<;>(try exact ⟨⟩)
    .have hplus:=plus_c (addW S S2) (sideW o.buy (NO.leftI o)) (sm_ok (sm_add hsm hsm2) (by decide)) (sm_ok (sm_side o.buy (NO.leftI o) (by omega)) (by decide));have e:ordW acc sym o=sideW o.buy (NO.leftI o):=by unfold ordW;rw[if_pos (hit_t.2 hc)]
     have hb2:addW S (sumW ((b.ords.take (i+1)).map (ordW acc sym)))=addW (addW S S2) (sideW o.buy (NO.leftI o)):=by rw[hz,e];simp only[addW,Prod.mk.injEq];omega
     refine Wk (An @hb2 (An @ho (An @hS (An @hS2 qEX1.1)))) (An @hright (An @hplus (An @hleft @Zv))) ?_;refine Za (i+1) (show i+1<=b.ords.length by omega) (by omega) (by refine Le.of (τ:=[]) (ν:=[]) (by kernel_rfl) ?_ ?_<;>((refine Lw (An @hb2 (An @ho (An @hS (An @hS2 qEX1.1)))) ?_;try exact ⟨⟩);try (first|omega|rfl)))
    .have e:ordW acc sym o=(0,0):=by unfold ordW;rw[if_neg (fun h=>hc.elim (fun n=>n (hit_t.1 h).1) (fun n=>n (hit_t.1 h).2))]
     have hs:=hz;rw[e,addW_0]at hs;refine Wk (An @ho (An @hS (An @hS2 (An @hs qEX1.1)))) (An @hright (An @hleft @Zv)) ?_;refine Za (i+1) (show i+1<=b.ords.length by omega) (by omega) (by refine Le.of (τ:=[]) (ν:=[]) (by kernel_rfl) ?_ ?_<;>((refine Lw (An @ho (An @hS (An @hS2 (An @hs qEX1.1)))) ?_;try exact ⟨⟩);try (first|omega|rfl)))
   .have e:i=b.ords.length:=by omega
    subst e;have hb3:addW S (sumW (b.ords.map (ordW acc sym)))=ofW b acc sym:=by rw[<-hS];rfl
    refine Wk (An @hb3 (An @hS qEX1.1)) (An @hright @Zv) ?_;refine Fn @results25 (An @hb3 (An @hS qEX1.1)) ?_;try exact ⟨⟩
namespace NA
structure Lim where
 acc:ByteArray
 sym:ByteArray
 long:Int
 short:Int
 qty:Int
 value:Int
instance :Inhabited Lim:=⟨⟨⟨#[]⟩,⟨#[]⟩,0,0,0,0⟩⟩
abbrev lC (x:Lim):List C:=[.v (.x (.string x.acc)),.v (.x (.string x.sym)),.v (vI x.long),.v (vI x.short),.v (vI x.qty),.v (vI x.value)]
abbrev lD (x:Lim):D:=.e (.a (lC x))
abbrev lV (x:Lim):List V:=[V.x (.string x.acc),V.x (.string x.sym),V.x (.int .i64 x.long),V.x (.int .i64 x.short),V.x (.int .i64 x.qty),V.x (.int .i64 x.value)]
abbrev lR (l:List Lim):List (List V):=l.map fun x=>[V.x (.string x.acc),V.x (.string x.sym),V.x (.int .i64 x.long),V.x (.int .i64 x.short),V.x (.int .i64 x.qty),V.x (.int .i64 x.value)]
abbrev lsD (l:List Lim):D:=.e (.c (.v (.s 6 (lR l))))
theorem Zb (l:List Lim) (i:Nat):(l.map fun x=>[V.x (.string x.acc),V.x (.string x.sym),V.x (.int .i64 x.long),V.x (.int .i64 x.short),V.x (.int .i64 x.qty),V.x (.int .i64 x.value)]).getD i [V.x (.string ⟨#[]⟩),V.x (.string ⟨#[]⟩),V.x (.int .i64 0),V.x (.int .i64 0),V.x (.int .i64 0),V.x (.int .i64 0)] =
 [V.x (.string (l.getD i default).acc),V.x (.string (l.getD i default).sym),V.x (.int .i64 (l.getD i default).long),V.x (.int .i64 (l.getD i default).short),V.x (.int .i64 (l.getD i default).qty),V.x (.int .i64 (l.getD i default).value)]:=by
 simp only[List.getD_eq_getElem?_getD,List.getElem?_map];cases l[i]?<;>rfl
def namedB (s:ByteArray):Bool:=!(s.data.toList == (⟨#[]⟩:ByteArray).data.toList) && decide ((s.size:Int)<=16)
def amountB (n:Int):Bool:=decide (0<=n) && decide (n<=1099511627776)
def mayL (x:Lim):Bool:=namedB x.acc && namedB x.sym && amountB x.long && amountB x.short && amountB x.qty && amountB x.value
def qAM11:=PLift.up (An @Zb @Z9)
theorem named_c (s:ByteArray):ACall prog 175 [] [SD s] (B (namedB s)) []:=by
 have hcl:True:=trivial;refine Ac func175 ?_;refine Wk (An @hcl qAM11.1) (An @isNaN_c @cmpS_c) ?_;refine Fn @results175 (An @hcl qAM11.1) ?_;try exact ⟨⟩
 rfl
theorem amount_c (n:Int):ACall prog 176 [] [I n] (B (amountB n)) []:=by
 have hcl:True:=trivial;refine Ac func176 ?_;refine Wk (An @hcl qAM11.1) (An @named_c (An @isNaN_c @cmpS_c)) ?_;refine Fn @results176 (An @hcl qAM11.1) ?_;try exact ⟨⟩
 rfl
def qAM12:=PLift.up (An @named_c (An @amount_c (An @isNaN_c @cmpS_c)))
theorem Zk (x:Lim):ACall prog 115 [] [lD x] (B (mayL x)) []:=by
 have hcl:True:=trivial;refine Ac func115 ?_;refine Wk (An @hcl qAM11.1) qAM12.1 ?_;refine Fn @results115 (An @hcl qAM11.1) ?_;try exact ⟨⟩
 rfl
def cmpL (a b:Lim):Int:=if cmpS a.acc b.acc≠0 then cmpS a.acc b.acc else cmpS a.sym b.sym
theorem Zl (a b:Lim):ACall prog 117 [] [lD a,lD b] (I (cmpL a b)) []:=by
 have hcl:True:=trivial;refine Ac func117 ?_;refine Wk (An @hcl qAM11.1) (An (fun u1 u2 u3 u4 u5 u6=>Zk ⟨u1,u2,u3,u4,u5,u6⟩) qAM12.1) ?_;refine Cb ?_ ?_<;>intro hc<;>(try exact ⟨⟩)
 .refine Wk (An @hcl qAM11.1) (An (fun u1 u2 u3 u4 u5 u6=>Zk ⟨u1,u2,u3,u4,u5,u6⟩) qAM12.1) ?_;refine Fn @results117 (An @hcl qAM11.1) ?_;try exact ⟨⟩
  rw[cmpL,if_pos hc]
 .refine Wk (An @hcl qAM11.1) (An (fun u1 u2 u3 u4 u5 u6=>Zk ⟨u1,u2,u3,u4,u5,u6⟩) qAM12.1) ?_;refine Fn @results117 (An @hcl qAM11.1) ?_;try exact ⟨⟩
  rw[cmpL,if_neg (fun h=>h hc)]
end NA
namespace NA
def sameN (a b:Lim):Prop:=a.acc=b.acc/\a.sym=b.sym
theorem cmpL_eq {a b:Lim}:cmpL a b=0↔sameN a b:=by
 unfold cmpL sameN;by_cases h:cmpS a.acc b.acc=0
 .rw[if_neg (fun x=>x h),Z5,<-Z5 (a:=a.acc)];exact ⟨fun x=>⟨h,x⟩,fun x=>x.2⟩
 .rw[if_pos h];exact ⟨fun x=>absurd x h,fun x=>absurd (Z5.2 x.1) h⟩
theorem cmpL_swap (a b:Lim):cmpL b a=- cmpL a b:=by
 unfold cmpL;rcases cmpS_cases a.acc b.acc with ⟨h1,h2⟩|⟨h1,h2⟩|⟨h1,h2⟩
 .rw[if_pos (by omega),if_pos (by omega)];omega
 .have h3:cmpS b.acc a.acc=0:=Z5.2 h2.symm;rw[if_neg (by omega),if_neg (by omega)];rcases cmpS_cases a.sym b.sym with ⟨h1,h2⟩|⟨h1,h2⟩|⟨h1,h2⟩
  .omega
  .have:=Z5.2 h2.symm;omega
  .omega
 .rw[if_pos (by omega),if_pos (by omega)];omega
theorem cmpL_trans {a b c:Lim} (h1:cmpL a b<0) (h2:cmpL b c<0):cmpL a c<0:=by
 have tr:∀ {x y z:ByteArray},cmpS x y<0->cmpS y z<0->cmpS x z<0:=fun h1 h2=>cmpS_lt.2 (bl_trans _ _ _ (cmpS_lt.1 h1) (cmpS_lt.1 h2));unfold cmpL at *;by_cases e1:cmpS a.acc b.acc=0
 .rw[if_neg (fun x=>x e1)]at h1;have ha:=Z5.1 e1;rw[ha];by_cases e2:cmpS b.acc c.acc=0
  .rw[if_neg (fun x=>x e2)]at h2 ⊢;exact tr h1 h2
  .rw[if_pos e2]at h2 ⊢;exact h2
 .rw[if_pos e1]at h1;by_cases e2:cmpS b.acc c.acc=0
  .have hb:=Z5.1 e2;rw[<-hb,if_pos e1];exact h1
  .rw[if_pos e2]at h2;have:=tr h1 h2;rw[if_pos (by omega)];exact this
end NA
namespace NA
def rightP (l:List Lim):Prop:=l.length<=32/\∀i,i<l.length->mayL (l.getD i default)=true/\(0<i->cmpL (l.getD (i - 1) default) (l.getD i default)<0)
theorem rightYes_c (l:List Lim) (h:rightP l):ACall prog 112 [] [lsD l] (B true) []:=by
 have hpr:True:=trivial;have hright:True:=trivial;have hl:=h.1;refine Ac func112 ?_;refine Wk (An @hpr @Zb) (And.intro (fun u1 u2 u3 u4 u5 u6=>Zk ⟨u1,u2,u3,u4,u5,u6⟩) (And.intro (fun u1 u2 u3 u4 u5 u6 u7 u8 u9 u10 u11 u12=>Zl ⟨u1,u2,u3,u4,u5,u6⟩ ⟨u7,u8,u9,u10,u11,u12⟩) @hright)) ?_;refine Cb ?_ ?_<;>intro hc<;>(try exact ⟨⟩)
 .omega
 .refine Wk (An @hpr @Zb) (And.intro (fun u1 u2 u3 u4 u5 u6=>Zk ⟨u1,u2,u3,u4,u5,u6⟩) (And.intro (fun u1 u2 u3 u4 u5 u6 u7 u8 u9 u10 u11 u12=>Zl ⟨u1,u2,u3,u4,u5,u6⟩ ⟨u7,u8,u9,u10,u11,u12⟩) @hright)) ?_;refine AWp.loop (fun i:Nat=>mkSt [(0,lsD l),(8,lsD l),(9,I l.length),(10,I i)] [] 0) (fun i=>i<=l.length) (fun i=>l.length - i) 0 (Nat.zero_le _) (by refine Le.of (τ:=[]) (ν:=[]) (by kernel_rfl) ?_ ?_<;>((refine Lw (An @hpr @Zb) ?_;try exact ⟨⟩);try rfl)) fun i hi=>?_;refine Wk (An @hpr @Zb) (And.intro (fun u1 u2 u3 u4 u5 u6=>Zk ⟨u1,u2,u3,u4,u5,u6⟩) (And.intro (fun u1 u2 u3 u4 u5 u6 u7 u8 u9 u10 u11 u12=>Zl ⟨u1,u2,u3,u4,u5,u6⟩ ⟨u7,u8,u9,u10,u11,u12⟩) @hright)) ?_;refine Cb ?_ ?_<;>intro hc<;>(try exact ⟨⟩)
  .have hil:i<l.length:=by omega
   have hm:=(h.2 i hil).1;have hc2:=(h.2 i hil).2;have hpr:0<i->((i:Int) - 1).toNat=i - 1:=fun _=>by omega
   by_cases hi0:i=0
   .subst hi0;refine Wk (An @hpr @Zb) (And.intro (fun u1 u2 u3 u4 u5 u6=>Zk ⟨u1,u2,u3,u4,u5,u6⟩) (And.intro (fun u1 u2 u3 u4 u5 u6 u7 u8 u9 u10 u11 u12=>Zl ⟨u1,u2,u3,u4,u5,u6⟩ ⟨u7,u8,u9,u10,u11,u12⟩) @hright)) ?_;refine Cb ?_ ?_<;>intro hc<;>(try exact ⟨⟩)
    .rcases hc with h|⟨h,_⟩
     .exact Bool.noConfusion (h.symm.trans hm)
     .omega
    .refine Wk (An @hpr @Zb) (And.intro (fun u1 u2 u3 u4 u5 u6=>Zk ⟨u1,u2,u3,u4,u5,u6⟩) (And.intro (fun u1 u2 u3 u4 u5 u6 u7 u8 u9 u10 u11 u12=>Zl ⟨u1,u2,u3,u4,u5,u6⟩ ⟨u7,u8,u9,u10,u11,u12⟩) @hright)) ?_;refine Za 1 (by omega) (by omega) (by refine Le.of (τ:=[]) (ν:=[]) (by kernel_rfl) ?_ ?_<;>((refine Lw (An @hpr @Zb) ?_;try exact ⟨⟩);try omega))
   .have hpr:((i:Int) - 1).toNat=i - 1:=by omega
    have hc2:=hc2 (by omega);refine Wk (An @hpr @Zb) (And.intro (fun u1 u2 u3 u4 u5 u6=>Zk ⟨u1,u2,u3,u4,u5,u6⟩) (And.intro (fun u1 u2 u3 u4 u5 u6 u7 u8 u9 u10 u11 u12=>Zl ⟨u1,u2,u3,u4,u5,u6⟩ ⟨u7,u8,u9,u10,u11,u12⟩) @hright)) ?_;refine Cb ?_ ?_<;>intro hc<;>(try exact ⟨⟩)
    .rcases hc with h|⟨_,h⟩
     .exact Bool.noConfusion (h.symm.trans hm)
     .exact absurd (show 0<=cmpL (l.getD (i - 1) default) (l.getD i default) from h) (by omega)
    .refine Wk (An @hpr @Zb) (And.intro (fun u1 u2 u3 u4 u5 u6=>Zk ⟨u1,u2,u3,u4,u5,u6⟩) (And.intro (fun u1 u2 u3 u4 u5 u6 u7 u8 u9 u10 u11 u12=>Zl ⟨u1,u2,u3,u4,u5,u6⟩ ⟨u7,u8,u9,u10,u11,u12⟩) @hright)) ?_;refine Za (i+1) (by omega) (by omega) (by refine Le.of (τ:=[]) (ν:=[]) (by kernel_rfl) ?_ ?_<;>((refine Lw (An @hpr @Zb) ?_;try exact ⟨⟩);try omega))
  .refine Wk (An @hpr @Zb) (And.intro (fun u1 u2 u3 u4 u5 u6=>Zk ⟨u1,u2,u3,u4,u5,u6⟩) (And.intro (fun u1 u2 u3 u4 u5 u6 u7 u8 u9 u10 u11 u12=>Zl ⟨u1,u2,u3,u4,u5,u6⟩ ⟨u7,u8,u9,u10,u11,u12⟩) @hright)) ?_;refine Fn @results112 (An @hpr @Zb) ?_;try exact ⟨⟩
theorem rightNo_c (l:List Lim) (hll:l.length<=9223372036854775807) (h:¬rightP l):ACall prog 112 [] [lsD l] (B false) []:=by
 have hpr:True:=trivial;have hright:True:=trivial;refine Ac func112 ?_;refine Wk (An @hpr @Zb) (And.intro (fun u1 u2 u3 u4 u5 u6=>Zk ⟨u1,u2,u3,u4,u5,u6⟩) (And.intro (fun u1 u2 u3 u4 u5 u6 u7 u8 u9 u10 u11 u12=>Zl ⟨u1,u2,u3,u4,u5,u6⟩ ⟨u7,u8,u9,u10,u11,u12⟩) @hright)) ?_;refine Cb ?_ ?_<;>intro hc<;>(try exact ⟨⟩)
 .refine Wk (An @hpr @Zb) (And.intro (fun u1 u2 u3 u4 u5 u6=>Zk ⟨u1,u2,u3,u4,u5,u6⟩) (And.intro (fun u1 u2 u3 u4 u5 u6 u7 u8 u9 u10 u11 u12=>Zl ⟨u1,u2,u3,u4,u5,u6⟩ ⟨u7,u8,u9,u10,u11,u12⟩) @hright)) ?_;refine Fn @results112 (An @hpr @Zb) ?_;try exact ⟨⟩
 .refine Wk (An @hpr @Zb) (And.intro (fun u1 u2 u3 u4 u5 u6=>Zk ⟨u1,u2,u3,u4,u5,u6⟩) (And.intro (fun u1 u2 u3 u4 u5 u6 u7 u8 u9 u10 u11 u12=>Zl ⟨u1,u2,u3,u4,u5,u6⟩ ⟨u7,u8,u9,u10,u11,u12⟩) @hright)) ?_;refine AWp.loop (fun i:Nat=>mkSt [(0,lsD l),(8,lsD l),(9,I l.length),(10,I i)] [] 0) (fun i=>i<=l.length/\∀j,j<i->mayL (l.getD j default)=true/\(0<j->cmpL (l.getD (j - 1) default) (l.getD j default)<0)) (fun i=>l.length - i) 0 ⟨Nat.zero_le _,fun j hj=>absurd hj (Nat.not_lt_zero _)⟩ (by refine Le.of (τ:=[]) (ν:=[]) (by kernel_rfl) ?_ ?_<;>((refine Lw (An @hpr @Zb) ?_;try exact ⟨⟩);try rfl)) fun i hi=>?_;obtain ⟨hi,hj⟩:=hi;refine Wk (An @hpr @Zb) (And.intro (fun u1 u2 u3 u4 u5 u6=>Zk ⟨u1,u2,u3,u4,u5,u6⟩) (And.intro (fun u1 u2 u3 u4 u5 u6 u7 u8 u9 u10 u11 u12=>Zl ⟨u1,u2,u3,u4,u5,u6⟩ ⟨u7,u8,u9,u10,u11,u12⟩) @hright)) ?_;refine Cb ?_ ?_<;>intro hc<;>(try exact ⟨⟩)
  .have hil:i<l.length:=by omega
   by_cases hi0:i=0
   .subst hi0;refine Wk (An @hpr @Zb) (And.intro (fun u1 u2 u3 u4 u5 u6=>Zk ⟨u1,u2,u3,u4,u5,u6⟩) (And.intro (fun u1 u2 u3 u4 u5 u6 u7 u8 u9 u10 u11 u12=>Zl ⟨u1,u2,u3,u4,u5,u6⟩ ⟨u7,u8,u9,u10,u11,u12⟩) @hright)) ?_;refine Cb ?_ ?_<;>intro hc<;>(try exact ⟨⟩)
    .refine Wk (An @hpr @Zb) (And.intro (fun u1 u2 u3 u4 u5 u6=>Zk ⟨u1,u2,u3,u4,u5,u6⟩) (And.intro (fun u1 u2 u3 u4 u5 u6 u7 u8 u9 u10 u11 u12=>Zl ⟨u1,u2,u3,u4,u5,u6⟩ ⟨u7,u8,u9,u10,u11,u12⟩) @hright)) ?_;refine Fn @results112 (An @hpr @Zb) ?_;try exact ⟨⟩
    .have hm:mayL (l.getD 0 default)=true:=by
      have:=hc.1;exact this
     refine Wk (An @hpr @Zb) (And.intro (fun u1 u2 u3 u4 u5 u6=>Zk ⟨u1,u2,u3,u4,u5,u6⟩) (And.intro (fun u1 u2 u3 u4 u5 u6 u7 u8 u9 u10 u11 u12=>Zl ⟨u1,u2,u3,u4,u5,u6⟩ ⟨u7,u8,u9,u10,u11,u12⟩) @hright)) ?_
     refine Za 1 ⟨by omega,fun j hj2=>by obtain rfl:j=0:=by omega
                                         exact ⟨hm,fun x=>by omega⟩⟩ (by omega) (by refine Le.of (τ:=[]) (ν:=[]) (by kernel_rfl) ?_ ?_<;>((refine Lw (An @hpr @Zb) ?_;try exact ⟨⟩);try omega))
   .have hpr:((i:Int) - 1).toNat=i - 1:=by omega
    refine Wk (An @hpr @Zb) (And.intro (fun u1 u2 u3 u4 u5 u6=>Zk ⟨u1,u2,u3,u4,u5,u6⟩) (And.intro (fun u1 u2 u3 u4 u5 u6 u7 u8 u9 u10 u11 u12=>Zl ⟨u1,u2,u3,u4,u5,u6⟩ ⟨u7,u8,u9,u10,u11,u12⟩) @hright)) ?_;refine Cb ?_ ?_<;>intro hc<;>(try exact ⟨⟩)
    .refine Wk (An @hpr @Zb) (And.intro (fun u1 u2 u3 u4 u5 u6=>Zk ⟨u1,u2,u3,u4,u5,u6⟩) (And.intro (fun u1 u2 u3 u4 u5 u6 u7 u8 u9 u10 u11 u12=>Zl ⟨u1,u2,u3,u4,u5,u6⟩ ⟨u7,u8,u9,u10,u11,u12⟩) @hright)) ?_;refine Fn @results112 (An @hpr @Zb) ?_;try exact ⟨⟩
    .have hm:mayL (l.getD i default)=true:=hc.1
     have hlt:cmpL (l.getD (i - 1) default) (l.getD i default)<0:=by
      rcases hc.2 with h|h
      .omega
      .exact Int.not_le.1 h
     refine Wk (An @hpr @Zb) (And.intro (fun u1 u2 u3 u4 u5 u6=>Zk ⟨u1,u2,u3,u4,u5,u6⟩) (And.intro (fun u1 u2 u3 u4 u5 u6 u7 u8 u9 u10 u11 u12=>Zl ⟨u1,u2,u3,u4,u5,u6⟩ ⟨u7,u8,u9,u10,u11,u12⟩) @hright)) ?_
     refine Za (i+1) ⟨by omega,fun j hj2=>by
      rcases (show j<i\/j=i by omega) with h|rfl
      .exact hj j h
      .exact ⟨hm,fun _=>hlt⟩⟩ (by omega) (by refine Le.of (τ:=[]) (ν:=[]) (by kernel_rfl) ?_ ?_<;>((refine Lw (An @hpr @Zb) ?_;try exact ⟨⟩);try omega))
  .obtain rfl:i=l.length:=by omega
   exact absurd ⟨by omega,hj⟩ h
abbrev resG (x:Lim) (b:Bool):D:=.t [.a (lC x),.c (.v (.x (.bool b)))]
def hit (x:Lim) (a s:ByteArray):Bool:=(x.acc.data.toList == a.data.toList) && (x.sym.data.toList == s.data.toList)
def findL (l:List Lim) (a s:ByteArray):Lim×Bool:=match l.find? (fun x=>hit x a s) with
 | some x=>(x,true)
 | none=>(default,false)
theorem find_step (l:List Lim) (a s:ByteArray) (i:Nat) (h:i<l.length):(l.drop i).find? (fun x=>hit x a s)=if hit (l.getD i default) a s=true then some (l.getD i default) else (l.drop (i+1)).find? (fun x=>hit x a s):=by
 have e:l.drop i=l.getD i default::l.drop (i+1):=by
  rw[List.getD_eq_getElem?_getD,List.getElem?_eq_getElem h];exact List.drop_eq_getElem_cons h
 rw[e,List.find?_cons];cases hit (l.getD i default) a s<;>rfl
theorem getYes_c (l:List Lim) (a s:ByteArray) (x:Lim) (b:Bool) (h:rightP l) (hf:findL l a s=(x,b)):ACall prog 62 [] [lsD l,SD a,SD s] (resG x b) []:=by
 have hpr:True:=trivial;have hright:=rightYes_c l h;have hl:=h.1;refine Ac func62 ?_;refine Wk (An @hpr @Zb) (And.intro (fun u1 u2 u3 u4 u5 u6=>Zk ⟨u1,u2,u3,u4,u5,u6⟩) (And.intro (fun u1 u2 u3 u4 u5 u6 u7 u8 u9 u10 u11 u12=>Zl ⟨u1,u2,u3,u4,u5,u6⟩ ⟨u7,u8,u9,u10,u11,u12⟩) @hright)) ?_;refine Cb ?_ ?_<;>intro hc<;>(try exact ⟨⟩)
 .contradiction
 .refine Wk (An @hpr @Zb) (And.intro (fun u1 u2 u3 u4 u5 u6=>Zk ⟨u1,u2,u3,u4,u5,u6⟩) (And.intro (fun u1 u2 u3 u4 u5 u6 u7 u8 u9 u10 u11 u12=>Zl ⟨u1,u2,u3,u4,u5,u6⟩ ⟨u7,u8,u9,u10,u11,u12⟩) @hright)) ?_;refine AWp.loop (τ:=ren [(0,0)]) (fun i:Nat=>mkSt [(1,SD a),(2,SD s),(6,.p 0 0),(14,lsD l),(15,I l.length),(16,I i)] [(0,.loc (lC default))] 1) (fun i=>i<=l.length/\(l.drop i).find? (fun x=>hit x a s)=l.find? (fun x=>hit x a s)) (fun i=>l.length - i) 0 ⟨Nat.zero_le _,rfl⟩ (by refine Le.of (ν:=[]) (by kernel_rfl) ?_ ?_<;>((refine Lw (An @hpr @Zb) ?_;try exact ⟨⟩);try exact ⟨rfl,rfl,rfl,rfl,rfl,rfl⟩)) fun i hi=>?_;obtain ⟨hi,hfi⟩:=hi;refine Wk (An @hpr @Zb) (And.intro (fun u1 u2 u3 u4 u5 u6=>Zk ⟨u1,u2,u3,u4,u5,u6⟩) (And.intro (fun u1 u2 u3 u4 u5 u6 u7 u8 u9 u10 u11 u12=>Zl ⟨u1,u2,u3,u4,u5,u6⟩ ⟨u7,u8,u9,u10,u11,u12⟩) @hright)) ?_;refine Cb ?_ ?_<;>intro hc<;>(try exact ⟨⟩)
  .have hil:i<l.length:=by omega
   rw[find_step l a s i hil]at hfi;refine Wk (An @hpr @Zb) (And.intro (fun u1 u2 u3 u4 u5 u6=>Zk ⟨u1,u2,u3,u4,u5,u6⟩) (And.intro (fun u1 u2 u3 u4 u5 u6 u7 u8 u9 u10 u11 u12=>Zl ⟨u1,u2,u3,u4,u5,u6⟩ ⟨u7,u8,u9,u10,u11,u12⟩) @hright)) ?_;refine Cb ?_ ?_<;>intro hc<;>(try exact ⟨⟩)
   .have hh:hit (l.getD i default) a s=true:=by rw[hit,Bool.and_eq_true,beq_iff_eq,beq_iff_eq];exact hc
    rw[if_pos hh]at hfi;have hx:(l.getD i default,true)=(x,b):=by rw[<-hf,findL,<-hfi]
    cases hx;refine Wk (An @hpr @Zb) (And.intro (fun u1 u2 u3 u4 u5 u6=>Zk ⟨u1,u2,u3,u4,u5,u6⟩) (And.intro (fun u1 u2 u3 u4 u5 u6 u7 u8 u9 u10 u11 u12=>Zl ⟨u1,u2,u3,u4,u5,u6⟩ ⟨u7,u8,u9,u10,u11,u12⟩) @hright)) ?_;refine Fn @results62 (An @hpr @Zb) ?_;try exact ⟨⟩
   .have hh:¬hit (l.getD i default) a s=true:=by
     intro x;rw[hit,Bool.and_eq_true,beq_iff_eq,beq_iff_eq]at x;rcases hc with h|h
     .exact h x.1
     .exact h x.2
    rw[if_neg hh]at hfi;refine Wk (An @hpr @Zb) (And.intro (fun u1 u2 u3 u4 u5 u6=>Zk ⟨u1,u2,u3,u4,u5,u6⟩) (And.intro (fun u1 u2 u3 u4 u5 u6 u7 u8 u9 u10 u11 u12=>Zl ⟨u1,u2,u3,u4,u5,u6⟩ ⟨u7,u8,u9,u10,u11,u12⟩) @hright)) ?_;refine Za (i+1) ⟨by omega,hfi⟩ (by omega) (by refine Le.of (τ:=[]) (ν:=[]) (by kernel_rfl) ?_ ?_<;>((refine Lw (An @hpr @Zb) ?_;try exact ⟨⟩);try omega))
  .obtain rfl:i=l.length:=by omega
   rw[List.drop_length,List.find?_nil]at hfi;have hx:((default:Lim),false)=(x,b):=by rw[<-hf,findL,<-hfi]
   cases hx;refine Wk (An @hpr @Zb) (And.intro (fun u1 u2 u3 u4 u5 u6=>Zk ⟨u1,u2,u3,u4,u5,u6⟩) (And.intro (fun u1 u2 u3 u4 u5 u6 u7 u8 u9 u10 u11 u12=>Zl ⟨u1,u2,u3,u4,u5,u6⟩ ⟨u7,u8,u9,u10,u11,u12⟩) @hright)) ?_;refine Fn @results62 (An @hpr @Zb) ?_;try exact ⟨⟩
   exact ⟨rfl,rfl,rfl,rfl,rfl,rfl⟩
end NA
namespace NA
def rightN (n:Int):Bool:=decide (-4611686018427387904<=n) && decide (n<=4611686018427387904)
theorem rightN_spec {n:Int}:rightN n=true↔-4611686018427387904<=n/\n<=4611686018427387904:=by simp[rightN]
theorem rightN_no {n:Int}:rightN n=false↔¬(-4611686018427387904<=n/\n<=4611686018427387904):=by rw[<-rightN_spec];simp
def qAN11:=PLift.up (An @wrap_u64 (An @and32 @shr32))
theorem right_c (n:Int):ACall prog 110 [] [I n] (B (rightN n)) []:=by
 refine Ac func110 ?_;refine Wk qAN11.1 trivial ?_;refine Fn @results110 qAN11.1 ?_;try exact ⟨⟩
 rfl
def okN (n:Int):Prop:=-4611686018427387904<=n/\n<=4611686018427387904
open Classical in
noncomputable def addS (a b:Int):Int×Bool:=if okN a/\okN b/\okN (a+b) then (a+b,true) else (0,false)
abbrev numD (r:Int×Bool):D:=.t [.c (.v (vI r.1)),.c (.v (.x (.bool r.2)))]
theorem wrap_sum (a b:Int) (ha:okN a) (hb:okN b):rightN (IntKind.i64.wrap (a+b))=true↔okN (a+b):=by
 unfold okN at *;by_cases c:a+b=9223372036854775808
 .rw[c,show IntKind.i64.wrap 9223372036854775808=-9223372036854775808 by decide,rightN_spec];omega
 .rw[Zn _ (by omega) (by omega),rightN_spec]
theorem add_c (a b:Int) (r:Int×Bool) (hr:addS a b=r) (h1:-9223372036854775808<=a/\a<=9223372036854775807):ACall prog 64 [] [I a,I b] (numD r) []:=by
 refine Ac func64 ?_;refine Wk qAN11.1 @right_c ?_;refine Cb ?_ ?_<;>intro hc<;>(try exact ⟨⟩)
 .refine Wk qAN11.1 @right_c ?_
  have e:r=(0,false):=by
   rw[<-hr,addS,if_neg];rintro ⟨ha,hb,hs⟩;have h2:=(wrap_sum a b ha hb).2 hs;have ha':=rightN_spec.2 ha;have hb':=rightN_spec.2 hb;simp[ha',hb',h2]at hc
  subst e;refine Fn @results64 qAN11.1 ?_;try exact ⟨⟩
 .obtain ⟨⟨ha,hb⟩,hs⟩:=hc;have ha':=rightN_spec.1 ha;have hb':=rightN_spec.1 hb;have hs':=(wrap_sum a b ha' hb').1 hs;have hs2:=hs';unfold okN at hs2;refine Wk qAN11.1 @right_c ?_;have e:r=(a+b,true):=by rw[<-hr,addS,if_pos ⟨ha',hb',hs'⟩]
  subst e;refine Fn @results64 qAN11.1 ?_;try exact ⟨⟩
def absN (n:Int):Int:=if n<0 then -n else n
theorem size_c (n:Int) (h:-4611686018427387904<=n/\n<=4611686018427387904):ACall prog 129 [] [I n] (.e (.c (.v (.x (.int .u64 (absN n)))))) []:=by
 refine Ac func129 ?_;refine Wk qAN11.1 @right_c ?_;refine Cb ?_ ?_<;>intro hc<;>(try exact ⟨⟩)
 .refine Wk qAN11.1 @right_c ?_;have e:absN n=0 - n:=by rw[absN,if_pos hc];omega
  rw[e];refine Fn @results129 qAN11.1 ?_;try exact ⟨⟩
 .refine Wk qAN11.1 @right_c ?_;have e:absN n=n:=by rw[absN,if_neg hc]
  rw[e];refine Fn @results129 qAN11.1 ?_;try exact ⟨⟩
theorem mul_parts (x0 x1 y0 y1 m:Int):(x1*m+x0)*(y1*m+y0)=(x1*y1)*(m*m)+(x1*y0+x0*y1)*m+x0*y0:=by
 simp only[Int.add_mul,Int.mul_add,Int.mul_assoc,Int.mul_comm,Int.mul_left_comm];omega
theorem mul_bd {a b A B:Int} (h1:0<=a) (h2:a<=A) (h3:0<=b) (h4:b<=B):0<=a*b/\a*b<=A*B :=
 ⟨Int.mul_nonneg h1 h3,Int.mul_le_mul h2 h4 h3 (by omega)⟩
theorem hi_eq (x y:Int) (hx0:0<=x) (hx1:x<=4611686018427387904) (hy0:0<=y) (hy1:y<=4611686018427387904) :
 x / 4294967296*(y / 4294967296)+(x / 4294967296*(y % 4294967296)+x % 4294967296*(y % 4294967296) / 4294967296) / 4294967296 +
  ((x / 4294967296*(y % 4294967296)+x % 4294967296*(y % 4294967296) / 4294967296) % 4294967296+x % 4294967296*(y / 4294967296)) / 4294967296=x*y / 18446744073709551616:=by
 have e:=mul_parts (x % 4294967296) (x / 4294967296) (y % 4294967296) (y / 4294967296) 4294967296;have ex:x / 4294967296*4294967296+x % 4294967296=x:=by omega
 have ey:y / 4294967296*4294967296+y % 4294967296=y:=by omega
 rw[ex,ey]at e;have b1:=mul_bd (a:=x % 4294967296) (b:=y % 4294967296) (A:=4294967295) (B:=4294967295) (by omega) (by omega) (by omega) (by omega);have b2:=mul_bd (a:=x / 4294967296) (b:=y % 4294967296) (A:=1073741824) (B:=4294967295) (by omega) (by omega) (by omega) (by omega);have b3:=mul_bd (a:=x % 4294967296) (b:=y / 4294967296) (A:=4294967295) (B:=1073741824) (by omega) (by omega) (by omega) (by omega);have b4:=mul_bd (a:=x / 4294967296) (b:=y / 4294967296) (A:=1073741824) (B:=1073741824) (by omega) (by omega) (by omega) (by omega);rw[e];generalize x / 4294967296*(y / 4294967296)=p at *;generalize x / 4294967296*(y % 4294967296)=q at *;generalize x % 4294967296*(y / 4294967296)=r at *;generalize x % 4294967296*(y % 4294967296)=s at *;omega
abbrev U (n:Int):D:=.e (.c (.v (.x (.int .u64 n))))
theorem shr32b (x:Int):x.fdiv (2 ^ min 32 IntKind.u64.bits)=x / 4294967296:=shr32 x
def qAN12:=PLift.up (An @wrap_u64 (An @and32 (An @shr32 @shr32b)))
theorem mul64_c (x y:Int) (hx0:0<=x) (hx1:x<=4611686018427387904) (hy0:0<=y) (hy1:y<=4611686018427387904) :
 ACall prog 128 [] [U x,U y] (.t [.c (.v (.x (.int .u64 (x*y / 18446744073709551616)))),.c (.v (.x (.int .u64 (IntKind.u64.wrap (x*y)))))]) []:=by
 have b1:=mul_bd (a:=x % 4294967296) (b:=y % 4294967296) (A:=4294967295) (B:=4294967295) (by omega) (by omega) (by omega) (by omega);have b2:=mul_bd (a:=x / 4294967296) (b:=y % 4294967296) (A:=1073741824) (B:=4294967295) (by omega) (by omega) (by omega) (by omega);have b3:=mul_bd (a:=x % 4294967296) (b:=y / 4294967296) (A:=4294967295) (B:=1073741824) (by omega) (by omega) (by omega) (by omega);have b4:=mul_bd (a:=x / 4294967296) (b:=y / 4294967296) (A:=1073741824) (B:=1073741824) (by omega) (by omega) (by omega) (by omega);refine Ac func128 ?_;refine Wk qAN12.1 (An @right_c @size_c) ?_;refine Fn @results128 qAN12.1 ?_;try exact ⟨⟩
 rw[hi_eq x y hx0 hx1 hy0 hy1]
theorem wrapU (x:Int):IntKind.u64.wrap x=x % 18446744073709551616:=by
 simp only[IntKind.wrap,IntKind.bits,IntKind.signed];simp
end NA
namespace NA
open Classical in
noncomputable def mulS (a b:Int):Int×Bool:=if okN a/\okN b/\okN (a*b) then (a*b,true) else (0,false)
theorem absN_le {a:Int} (h:okN a):0<=absN a/\absN a<=4611686018427387904:=by
 unfold okN at h;unfold absN;split<;>omega
theorem absN_mul (a b:Int):a*b=if (a<0↔b<0) then absN a*absN b else -(absN a*absN b):=by
 unfold absN;by_cases ha:a<0<;>by_cases hb:b<0<;>simp[ha,hb,Int.neg_mul,Int.mul_neg]
def qAN22:=PLift.up (An @right_c (An @size_c @mul64_c))
def qAN21:=PLift.up (An @wrapU (An @and32 @shr32))
theorem mul_c (a b:Int) (r:Int×Bool) (hr:mulS a b=r):ACall prog 63 [] [I a,I b] (numD r) []:=by
 have hP:True:=trivial;refine Ac func63 ?_;refine Wk (An @hP qAN21.1) qAN22.1 ?_;refine Cb ?_ ?_<;>intro hc<;>(try exact ⟨⟩)
 .refine Wk (An @hP qAN21.1) qAN22.1 ?_
  have e:r=(0,false):=by
   rw[<-hr,mulS,if_neg];rintro ⟨ha,hb,_⟩;have ha':=rightN_spec.2 ha;have hb':=rightN_spec.2 hb;simp[ha',hb']at hc
  subst e;refine Fn @results63 (An @hP qAN21.1) ?_;try exact ⟨⟩
 .have ha:okN a:=rightN_spec.1 hc.1;have hb:okN b:=rightN_spec.1 hc.2;have ha2:=rightN_spec.1 hc.1;have hb2:=rightN_spec.1 hc.2;have ba:=absN_le ha;have bb:=absN_le hb;obtain ⟨P,hP⟩:∃P,absN a*absN b=P:=⟨_,rfl⟩
  have hbd:=mul_bd ba.1 ba.2 bb.1 bb.2;rw[hP]at hbd;have hm:=absN_mul a b;rw[hP]at hm;refine Wk (An @hP qAN21.1) qAN22.1 ?_;refine Cb ?_ ?_<;>intro hc<;>(try exact ⟨⟩)
  .refine Wk (An @hP qAN21.1) qAN22.1 ?_
   have e:r=(0,false):=by
    rw[<-hr,mulS,if_neg];rintro ⟨_,_,h3⟩;rw[hm]at h3;unfold okN at h3
    split at h3<;>omega
   subst e;refine Fn @results63 (An @hP qAN21.1) ?_;try exact ⟨⟩
  .have hlt:P<=4611686018427387904:=by omega
   refine Wk (An @hP qAN21.1) qAN22.1 ?_
   have e:r=(a*b,true):=by
    rw[<-hr,mulS,if_pos];refine ⟨ha,hb,?_⟩;rw[hm];unfold okN;split<;>omega
   refine Cb ?_ ?_<;>intro hc<;>(try exact ⟨⟩)
   .refine Wk (An @hP qAN21.1) qAN22.1 ?_
    have e2:a*b=0 - P % 18446744073709551616:=by
     rw[hm,if_neg]
     .omega
     .intro h;apply hc;rw[Bool.eq_iff_iff];simpa using h
    rw[e2]at e;subst e;refine Fn @results63 (An @hP qAN21.1) ?_;try exact ⟨⟩
   .refine Wk (An @hP qAN21.1) qAN22.1 ?_
    have e2:a*b=P % 18446744073709551616:=by
     rw[hm,if_pos]
     .omega
     .have:=hc;rw[Bool.eq_iff_iff]at this;simpa using this
    rw[e2]at e;subst e;refine Fn @results63 (An @hP qAN21.1) ?_;try exact ⟨⟩
end NA
namespace NA
structure Ord where
 id:ByteArray
 acc:ByteArray
 sym:ByteArray
 buy:Bool
 qty:Int
 price:Int
 done:Int
 op:Bool
abbrev oC (o:Ord):List C:=[.v (.x (.string o.id)),.v (.x (.string o.acc)),.v (.x (.string o.sym)),.v (.x (.bool o.buy)),.v (vI o.qty),.v (vI o.price),.v (vI o.done),.v (.x (.bool o.op))]
abbrev oD (o:Ord):D:=.e (.a (oC o))
abbrev wD (wl ws:Int):D:=.e (.a [.v (vI wl),.v (vI ws)])
noncomputable def whyF (x:Lim) (b:Bool) (o:Ord) (wl ws:Int):Int :=
 if b=false then 1 else
 if x.qty<o.qty then 2 else
 if (mulS o.qty o.price).2=false\/x.value<(mulS o.qty o.price).1 then 3 else
 if o.buy=true then (if (addS wl o.qty).2=false\/x.long<(addS wl o.qty).1 then 4 else 0)
 else (if (addS ws o.qty).2=false\/x.short<(addS ws o.qty).1 then 5 else 0)
def qAM31:=PLift.up (An @mul_c @add_c)
theorem why_c (l:List Lim) (o:Ord) (wl ws:Int) (x:Lim) (b:Bool) (hget:ACall prog 62 [] [lsD l,SD o.acc,SD o.sym] (resG x b) []) (hwl:-9223372036854775808<=wl/\wl<=9223372036854775807) (hws:-9223372036854775808<=ws/\ws<=9223372036854775807) :
 ACall prog 22 [] [lsD l,oD o,wD wl ws] (I (whyF x b o wl ws)) []:=by
 obtain ⟨id,acc,sym,buy,qty,price,dn,op⟩:=o;dsimp only at hget;obtain ⟨⟨mv,mb⟩,hm⟩:∃r,mulS qty price=r:=⟨_,rfl⟩
 cases b with
 | false =>
  have ha:True:=trivial;refine Ac func22 ?_;refine Wk @Zb (An @hget qAM31.1) ?_;refine Cb ?_ ?_<;>intro hc<;>(try exact ⟨⟩)
  .refine Wk @Zb (An @hget qAM31.1) ?_;refine Fn @results22 @Zb ?_;try exact ⟨⟩
   rw[whyF,if_pos rfl]
  .contradiction
 | true =>
  cases buy with
  | true =>
   obtain ⟨⟨av,ab⟩,ha⟩:∃r,addS wl qty=r:=⟨_,rfl⟩
   have hwr:=hwl;have hF:∀r,r=(if x.qty<qty then 2 else if mb=false\/x.value<mv then 3 else if ab=false\/x.long<av then 4 else 0)->whyF x true ⟨id,acc,sym,true,qty,price,dn,op⟩ wl ws=r:=fun r h=>by rw[h,whyF,if_neg (by decide)];dsimp only;rw[hm,ha];rfl
   refine Ac func22 ?_;refine Wk @Zb (An @hget qAM31.1) ?_;refine Cb ?_ ?_<;>intro hc<;>(try exact ⟨⟩)
   .contradiction
   .refine Wk @Zb (An @hget qAM31.1) ?_;refine Cb ?_ ?_<;>intro hc<;>(try exact ⟨⟩)
    .refine Wk @Zb (An @hget qAM31.1) ?_;refine Fn @results22 @Zb ?_;try exact ⟨⟩
     exact hF _ (by rw[if_pos hc])
    .have h1:=hc;refine Wk @Zb (An @hget qAM31.1) ?_;refine Cb ?_ ?_<;>intro hc<;>(try exact ⟨⟩)
     .refine Wk @Zb (An @hget qAM31.1) ?_;refine Fn @results22 @Zb ?_;try exact ⟨⟩
      exact hF _ (by rw[if_neg h1,if_pos hc])
     .have h2:¬(mb=false\/x.value<mv):=by rintro (h|h)<;>simp_all
      refine Wk @Zb (An @hget qAM31.1) ?_;refine Cb ?_ ?_<;>intro hc<;>(try exact ⟨⟩)
      .refine Wk @Zb (An @hget qAM31.1) ?_;refine Cb ?_ ?_<;>intro hc<;>(try exact ⟨⟩)
       .refine Wk @Zb (An @hget qAM31.1) ?_;refine Fn @results22 @Zb ?_;try exact ⟨⟩
        exact hF _ (by rw[if_neg h1,if_neg h2,if_pos hc])
       .have h3:¬(ab=false\/x.long<av):=by rintro (h|h)<;>simp_all
        refine Wk @Zb (An @hget qAM31.1) ?_;refine Fn @results22 @Zb ?_;try exact ⟨⟩
        exact hF _ (by rw[if_neg h1,if_neg h2,if_neg h3])
      .contradiction
  | false =>
   obtain ⟨⟨av,ab⟩,ha⟩:∃r,addS ws qty=r:=⟨_,rfl⟩
   have hwr:=hws;have hF:∀r,r=(if x.qty<qty then 2 else if mb=false\/x.value<mv then 3 else if ab=false\/x.short<av then 5 else 0)->whyF x true ⟨id,acc,sym,false,qty,price,dn,op⟩ wl ws=r:=fun r h=>by rw[h,whyF,if_neg (by decide)];dsimp only;rw[hm,ha];rfl
   refine Ac func22 ?_;refine Wk @Zb (An @hget qAM31.1) ?_;refine Cb ?_ ?_<;>intro hc<;>(try exact ⟨⟩)
   .contradiction
   .refine Wk @Zb (An @hget qAM31.1) ?_;refine Cb ?_ ?_<;>intro hc<;>(try exact ⟨⟩)
    .refine Wk @Zb (An @hget qAM31.1) ?_;refine Fn @results22 @Zb ?_;try exact ⟨⟩
     exact hF _ (by rw[if_pos hc])
    .have h1:=hc;refine Wk @Zb (An @hget qAM31.1) ?_;refine Cb ?_ ?_<;>intro hc<;>(try exact ⟨⟩)
     .refine Wk @Zb (An @hget qAM31.1) ?_;refine Fn @results22 @Zb ?_;try exact ⟨⟩
      exact hF _ (by rw[if_neg h1,if_pos hc])
     .have h2:¬(mb=false\/x.value<mv):=by rintro (h|h)<;>simp_all
      refine Wk @Zb (An @hget qAM31.1) ?_;refine Cb ?_ ?_<;>intro hc<;>(try exact ⟨⟩)
      .contradiction
      .refine Wk @Zb (An @hget qAM31.1) ?_;refine Cb ?_ ?_<;>intro hc<;>(try exact ⟨⟩)
       .refine Wk @Zb (An @hget qAM31.1) ?_;refine Fn @results22 @Zb ?_;try exact ⟨⟩
        exact hF _ (by rw[if_neg h1,if_neg h2,if_pos hc])
       .have h3:¬(ab=false\/x.short<av):=by rintro (h|h)<;>simp_all
        refine Wk @Zb (An @hget qAM31.1) ?_;refine Fn @results22 @Zb ?_;try exact ⟨⟩
        exact hF _ (by rw[if_neg h1,if_neg h2,if_neg h3])
end NA
namespace NA
end NA
namespace NA
def posL (l:List Lim) (x:Lim):Nat:=(l.takeWhile fun y=>decide (cmpL y x<0)).length
theorem posL_le (l:List Lim) (x:Lim):posL l x<=l.length:=by
 unfold posL;exact (List.takeWhile_sublist _).length_le
theorem posL_lt (l:List Lim) (x:Lim):∀j,j<posL l x->cmpL (l.getD j default) x<0:=by
 induction l with
 | nil=>intro j hj;exact absurd hj (Nat.not_lt_zero _)
 | cons y l ih =>
  intro j hj;unfold posL at hj;rw[List.takeWhile_cons]at hj;by_cases h:cmpL y x<0
  .rw[if_pos (by simpa using h),List.length_cons]at hj
   cases j with
   | zero=>simpa using h
   | succ j=>simpa using ih j (by unfold posL;omega)
  .rw[if_neg (by simpa using h)]at hj;exact absurd hj (Nat.not_lt_zero _)
theorem posL_at (l:List Lim) (x:Lim) (h:posL l x<l.length):0<=cmpL (l.getD (posL l x) default) x:=by
 induction l with
 | nil=>exact absurd h (Nat.not_lt_zero _)
 | cons y l ih =>
  by_cases hy:cmpL y x<0
  .have e:posL (y::l) x=posL l x+1:=by
    unfold posL;rw[List.takeWhile_cons,if_pos (by simpa using hy),List.length_cons]
   rw[e]at h ⊢;simpa using ih (by simpa using h)
  .have e:posL (y::l) x=0:=by
    unfold posL;rw[List.takeWhile_cons,if_neg (by simpa using hy)];rfl
   rw[e];simpa using hy
theorem sorted_of {l:List Lim} (h:rightP l):∀i j,i<j->j<l.length->cmpL (l.getD i default) (l.getD j default)<0:=by
 intro i j hij hj
 induction j with
 | zero=>omega
 | succ j ih =>
  have h1:=(h.2 (j+1) hj).2 (by omega);rw[Nat.add_sub_cancel]at h1;rcases Nat.lt_or_ge i j with h2|h2
  .exact cmpL_trans (ih h2 (by omega)) h1
  .obtain rfl:i=j:=by omega
   exact h1
theorem cmpL_sameR {a b c:Lim} (h:sameN b c):cmpL a b=cmpL a c:=by unfold cmpL;rw[h.1,h.2]
theorem cmpL_sameL {a b c:Lim} (h:sameN a b):cmpL a c=cmpL b c:=by unfold cmpL;rw[h.1,h.2]
theorem posL_ge {l:List Lim} (h:rightP l) (x:Lim):∀j,posL l x<=j->j<l.length->0<=cmpL (l.getD j default) x:=by
 intro j hj hl;have h0:=posL_at l x (by omega);rcases Nat.lt_or_eq_of_le hj with h1|h1
 .have h2:=sorted_of h _ _ h1 hl;rcases Int.lt_or_le (cmpL (l.getD j default) x) 0 with h3|h3
  .have:=cmpL_trans h2 h3;omega
  .exact h3
 .rw[<-h1];exact h0
def foundL (l:List Lim) (x:Lim):Bool:=decide (posL l x<l.length) && decide (cmpL (l.getD (posL l x) default) x=0)
open Classical in
noncomputable def setL (l:List Lim) (x:Lim):List Lim×Int :=
 if ¬(rightP l/\mayL x=true) then (l,1) else
 if foundL l x=true then (l.set (posL l x) x,0) else
 if l.length=32 then (l,5) else (l.take (posL l x)++x::l.drop (posL l x),0)
theorem setL_bad {l:List Lim} {x:Lim} (h:¬(rightP l/\mayL x=true)):setL l x=(l,1):=by unfold setL;rw[if_pos h]
theorem setL_found {l:List Lim} {x:Lim} (h:rightP l) (hx:mayL x=true) (hf:foundL l x=true):setL l x=(l.set (posL l x) x,0):=by unfold setL;rw[if_neg (fun n=>n ⟨h,hx⟩),if_pos hf]
theorem setL_full {l:List Lim} {x:Lim} (h:rightP l) (hx:mayL x=true) (hf:¬foundL l x=true) (hl:l.length=32):setL l x=(l,5):=by unfold setL;rw[if_neg (fun n=>n ⟨h,hx⟩),if_neg hf,if_pos hl]
theorem setL_ins {l:List Lim} {x:Lim} (h:rightP l) (hx:mayL x=true) (hf:¬foundL l x=true) (hl:l.length≠32):setL l x=(l.take (posL l x)++x::l.drop (posL l x),0):=by unfold setL;rw[if_neg (fun n=>n ⟨h,hx⟩),if_neg hf,if_neg hl]
theorem foundL_spec {l:List Lim} {x:Lim}:foundL l x=true↔posL l x<l.length/\sameN (l.getD (posL l x) default) x:=by
 unfold foundL;rw[Bool.and_eq_true,decide_eq_true_eq,decide_eq_true_eq,cmpL_eq]
theorem getD_set {l:List Lim} {n:Nat} {x:Lim} (j:Nat) (hn:n<l.length):(l.set n x).getD j default=if j=n then x else l.getD j default:=by
 simp only[List.getD_eq_getElem?_getD,List.getElem?_set]
 split
 .rename_i h;subst h;rw[if_pos rfl];simp[hn]
 .rename_i h;rw[if_neg (fun e=>h e.symm)]
theorem getD_ins {l:List Lim} {n:Nat} {x:Lim} (j:Nat) (hn:n<=l.length):(l.take n++x::l.drop n).getD j default=if j<n then l.getD j default else if j=n then x else l.getD (j - 1) default:=by
 have ht:(l.take n).length=n:=by simp;omega
 simp only[List.getD_eq_getElem?_getD];by_cases h1:j<n
 .rw[List.getElem?_append_left (by omega),List.getElem?_take,if_pos h1,if_pos h1]
 .rw[List.getElem?_append_right (by omega),ht,if_neg h1];by_cases h2:j=n
  .subst h2;simp
  .rw[if_neg h2,show j - n=(j - 1 - n)+1 by omega,List.getElem?_cons_succ,List.getElem?_drop,show n+(j - 1 - n)=j - 1 by omega]
theorem right_set {l:List Lim} {x:Lim} (h:rightP l) (hx:mayL x=true) (hf:foundL l x=true):rightP (l.set (posL l x) x):=by
 obtain ⟨hlt,hs⟩:=foundL_spec.1 hf;refine ⟨by simpa using h.1,fun i hi=>?_⟩;have hi':i<l.length:=by simpa using hi
 have hi2:=h.2 i hi';rw[getD_set i hlt,getD_set (i - 1) hlt];constructor
 .split
  .exact hx
  .exact hi2.1
 .intro h0;have h3:=hi2.2 h0;by_cases e1:i=posL l x
  .rw[if_pos e1,if_neg (by omega),<-cmpL_sameR hs,<-e1];exact h3
  .rw[if_neg e1]
   split
   .rename_i e2;rw[<-cmpL_sameL hs,<-e2];exact h3
   .exact h3
theorem right_ins {l:List Lim} {x:Lim} (h:rightP l) (hx:mayL x=true) (hf:¬foundL l x=true) (hl:l.length≠32):rightP (l.take (posL l x)++x::l.drop (posL l x)):=by
 have hle:=posL_le l x;have hlen:(l.take (posL l x)++x::l.drop (posL l x)).length=l.length+1:=by simp;omega
 refine ⟨by have:=h.1;omega,fun i hi=>?_⟩;rw[hlen]at hi;rw[getD_ins i hle,getD_ins (i - 1) hle]
 have hat:posL l x<l.length->0<cmpL (l.getD (posL l x) default) x:=fun hp=>by
  have h0:=posL_at l x hp;have:cmpL (l.getD (posL l x) default) x≠0:=fun e=>hf (foundL_spec.2 ⟨hp,cmpL_eq.1 e⟩);omega
 constructor
 .split
  .exact (h.2 i (by omega)).1
  .split
   .exact hx
   .exact (h.2 (i - 1) (by omega)).1
 .intro h0;by_cases e1:i<posL l x
  .rw[if_pos e1,if_pos (by omega)];exact (h.2 i (by omega)).2 h0
  .rw[if_neg e1];by_cases e2:i=posL l x
   .rw[if_pos e2,if_pos (by omega)];exact posL_lt l x _ (by omega)
   .rw[if_neg e2];by_cases e3:i - 1=posL l x
    .rw[if_neg (by omega),if_pos e3,e3];have:=hat (by omega)
     have:=cmpL_swap x (l.getD (posL l x) default);omega
    .rw[if_neg (by omega),if_neg e3];exact (h.2 (i - 1) (by omega)).2 (by omega)
end NA
structure Ven where
 bk:Bk
 sent:List Ord
 last:Int
 gap:Bool
instance :Inhabited Ven:=⟨⟨default,[],0,false⟩⟩
structure Gat where
 vens:List Ven
 lims:List NA.Lim
 kill:Bool
 now:Int
 pat:Int
abbrev vnV (v:Ven):List V:=[NO.osV v.bk.ords,fsV v.bk.fills,ssV v.bk.ids,vI v.bk.clock,vI v.bk.bad,NO.osV v.sent,vI v.last,vB v.gap]
abbrev vnC (v:Ven):List C:=[.v (NO.osV v.bk.ords),.v (fsV v.bk.fills),.v (ssV v.bk.ids),.v (vI v.bk.clock),.v (vI v.bk.bad),.v (NO.osV v.sent),.v (vI v.last),.v (vB v.gap)]
abbrev vnD (v:Ven):D:=.e (.a (vnC v))
abbrev vR (l:List Ven):List (List V):=l.map fun v=>[NO.osV v.bk.ords,fsV v.bk.fills,ssV v.bk.ids,vI v.bk.clock,vI v.bk.bad,NO.osV v.sent,vI v.last,vB v.gap]
theorem getD_vR (l:List Ven) (i:Nat) (d:List V) (h:i<l.length):(l.map fun v=>[NO.osV v.bk.ords,fsV v.bk.fills,ssV v.bk.ids,vI v.bk.clock,vI v.bk.bad,NO.osV v.sent,vI v.last,vB v.gap]).getD i d=vnV (l.getD i default):=by
 simp[List.getD_eq_getElem?_getD,h]
theorem Ya {l:List Ven} {i:Nat} (h:i<l.length):l.getD i default∈l:=by
 rw[List.getD_eq_getElem?_getD,List.getElem?_eq_getElem h];exact List.getElem_mem h
abbrev gtC (g:Gat):List C:=[.v (.s 8 (vR g.vens)),.v (.s 6 (NA.lR g.lims)),.v (vB g.kill),.v (vI g.now),.v (vI g.pat)]
abbrev gtD (g:Gat):D:=.e (.a (gtC g))
def timeP (n:Int):Prop:=0<=n/\n<=4611686018427387904
structure venP (v:Ven) (now:Int):Prop where
 bk:bkP v.bk
 sent:NO.rightB v.sent=true
 room:v.bk.ords.length+v.sent.length<=64
 last:0<=v.last/\v.last<=now
 op:∀o,o∈v.sent->o.op=true/\v.bk.ords.any (fun x=>eqB x.id o.id)=false
structure gatP (g:Gat):Prop where
 n:1<=g.vens.length/\g.vens.length<=4
 lims:NA.rightP g.lims
 now:timeP g.now
 pat:timeP g.pat
 vens:∀v,v∈g.vens->venP v g.now
def qGA1:=PLift.up (An @Z0 (An @Zh @NO.Ze))
theorem isTime_c (n:Int) (h:timeP n):ACall prog 65 [] [I n] (B true) []:=by
 have hb1:True:=trivial;have hb2:True:=trivial;have hb3:True:=trivial;have hb4:True:=trivial;have hdo:True:=trivial;unfold timeP at h;refine Ac func65 ?_;refine Wk (An @hb1 (An @hb2 (An @hb3 (An @hb4 qGA1.1)))) @hdo ?_;refine Fn @results65 (An @hb1 (An @hb2 (An @hb3 (An @hb4 qGA1.1)))) ?_;try exact ⟨⟩
 simp;omega
theorem lets_c (s:Int):ACall prog 123 [] [I s,B true] (B (decide (s=0))) []:=by
 have hb1:True:=trivial;have hb2:True:=trivial;have hb3:True:=trivial;have hb4:True:=trivial;have hdo:True:=trivial;refine Ac func123 ?_;refine Wk (An @hb1 (An @hb2 (An @hb3 (An @hb4 qGA1.1)))) @hdo ?_;refine Fn @results123 (An @hb1 (An @hb2 (An @hb3 (An @hb4 qGA1.1)))) ?_;try exact ⟨⟩
 rfl
namespace NS
structure Msg where
 kind:Int
 seq:Int
 time:Int
 copy:Bool
 a:Int
 b:Int
 gap:Bool
 text:ByteArray
 id:ByteArray
 ref:ByteArray
 order:ByteArray
 account:ByteArray
 symbol:ByteArray
 ekind:Int
 buy:Bool
 qty:Int
 price:Int
 etime:Int
def zM:Msg:=⟨0,0,0,false,0,0,false,⟨#[]⟩,⟨#[]⟩,⟨#[]⟩,⟨#[]⟩,⟨#[]⟩,⟨#[]⟩,0,false,0,0,0⟩
instance :Inhabited Msg:=⟨zM⟩
abbrev vB (b:Bool):V:=.x (.bool b)
abbrev vS (b:ByteArray):V:=.x (.string b)
def whenB (n:Int):Bool:=decide (0<=n) && decide (n<=4611686018427387904)
end NS
end Eng
end Go.Proofs.YtgenjpingdkmgaaGreatDoor
