/- Contracts of functions that this seat's law calls. No condition. -/
import Derived.Test.YtgenjpingdkmgaaGreatDoorM14
set_option maxRecDepth 100000
set_option linter.unusedSimpArgs false
set_option linter.unusedVariables false
namespace Go.Proofs.YtgenjpingdkmgaaGreatDoor
namespace Eng
structure bkP (b:Bk):Prop where
 ords:NO.rightB b.ords=true
 fl:b.fills.length≤256
 il:b.ids.length≤256
 clock:0≤b.clock∧b.clock≤4611686018427387904
 bad:0≤b.bad∧b.bad≤6
 ids:b.ids.Nodup
 fills:∀f,f∈b.fills→NO.amountB f.qty=true∧NO.amountB f.price=true∧0≤f.time∧f.time≤b.clock∧f.id∈b.ids
 names:(b.fills.map (·.id)).Nodup
structure exP (x:Exe):Prop where
 qty:NO.amountB x.qty=true
 price:NO.amountB x.price=true
 time:0≤x.time∧x.time≤4611686018427387904
def filX (x:Exe):Fil:=⟨x.id,x.ord,x.acc,x.sym,x.buy,x.qty,x.price,x.time,true⟩
noncomputable def bfillS (b:Bk) (x:Exe):Bk×Int :=
 if (NO.fillS b.ords x.ord x.qty x.price).2=0 then ({ b with ords:=(NO.fillS b.ords x.ord x.qty x.price).1,fills:=b.fills++[filX x] },0)
 else if (NO.fillS b.ords x.ord x.qty x.price).2=1 then (b,4)
 else if (NO.fillS b.ords x.ord x.qty x.price).2=9 then (b,5) else (b,2)
noncomputable def breplS (b:Bk) (x:Exe):Bk×Int :=
 if (NO.changeS b.ords x.ref x.ord x.qty x.price).2=0 then ({ b with ords:=(NO.changeS b.ords x.ref x.ord x.qty x.price).1 },0)
 else if (NO.changeS b.ords x.ref x.ord x.qty x.price).2=1 then (b,4) else (b,2)
def difN (f:Fil) (x:Exe):Prop:=f.ord.data.toList≠x.ord.data.toList∨f.acc.data.toList≠x.acc.data.toList∨f.sym.data.toList≠x.sym.data.toList∨f.buy≠x.buy
instance (f:Fil) (x:Exe):Decidable (difN f x):=by unfold difN;infer_instance
noncomputable def bamendS (b:Bk) (x:Exe):Bk×Int :=
 if refI b.fills x<0 then (b,6)
 else if (b.fills.getD (refI b.fills x).toNat default).lv=false∨10<x.time - (b.fills.getD (refI b.fills x).toNat default).time then (b,6)
 else if difN (b.fills.getD (refI b.fills x).toNat default) x then (b,3)
 else if x.kind=7 then ({ b with fills:=b.fills.set (refI b.fills x).toNat { (b.fills.getD (refI b.fills x).toNat default) with lv:=false } },0)
 else if (b.fills.getD (refI b.fills x).toNat default).qty<x.qty then (b,4)
 else if (NO.findS b.ords (b.fills.getD (refI b.fills x).toNat default).ord).2=false∨fairB (NO.findS b.ords (b.fills.getD (refI b.fills x).toNat default).ord).1 (b.fills.getD (refI b.fills x).toNat default).buy x.price=false then (b,5)
 else ({ b with fills:=b.fills.set (refI b.fills x).toNat { (b.fills.getD (refI b.fills x).toNat default) with qty:=x.qty,price:=x.price } },0)
def nwX (x:Exe):Ord:=⟨x.ord,x.acc,x.sym,x.buy,x.qty,x.price,0,false⟩
def difO (o:Ord) (x:Exe):Prop:=o.acc.data.toList≠x.acc.data.toList∨o.sym.data.toList≠x.sym.data.toList∨o.buy≠x.buy
instance (o:Ord) (x:Exe):Decidable (difO o x):=by unfold difO;infer_instance
noncomputable def applyS (b:Bk) (x:Exe):Bk×Int :=
 if x.time<b.clock then (b,1)
 else if x.kind=1 then (if (NO.newS b.ords (nwX x)).2=0 then ({ b with ords:=(NO.newS b.ords (nwX x)).1 },0) else (b,2))
 else if x.kind=7∨x.kind=8 then bamendS b x
 else if (NO.findS b.ords (if x.kind=4 then x.ref else x.ord)).2=false∨(NO.findS b.ords (if x.kind=4 then x.ref else x.ord)).1.op=false then (b,2)
 else if difO (NO.findS b.ords (if x.kind=4 then x.ref else x.ord)).1 x then (b,3)
 else if x.kind=2 then bfillS b x
 else if x.kind=4 then breplS b x
 else if (NO.closeS b.ords x.ord).2=0 then ({ b with ords:=(NO.closeS b.ords x.ord).1 },0) else (b,2)
noncomputable def takeS (b:Bk) (x:Exe):Bk×Int :=
 if b.bad≠0∨256≤b.ids.length then (b,4)
 else if b.ids.any (eqB x.id)=true then (b,2)
 else if (applyS { b with ids:=b.ids++[x.id] } x).2=0 then ({ (applyS { b with ids:=b.ids++[x.id] } x).1 with clock:=x.time },1)
 else ({ (applyS { b with ids:=b.ids++[x.id] } x).1 with bad:=(applyS { b with ids:=b.ids++[x.id] } x).2 },3)
theorem newS_right {l:List Ord} {o:Ord} (h:(NO.newS l o).2=0):NO.rightB (NO.newS l o).1=true:=by
 unfold NO.newS at h ⊢
 split
 ·rename_i hc;rw[if_pos hc]at h;exact absurd h (by simp)
 ·rename_i hc
  rw[if_neg hc]at h
  split
  ·rename_i hc2;rw[if_pos hc2]at h;exact absurd h (by simp)
  ·rename_i hc2
   rw[if_neg hc2]at h
   split
   ·rename_i hc3;rw[if_pos hc3]at h;exact absurd h (by simp)
   ·rename_i hc3
    simp only[not_or,Bool.not_eq_false]at hc
    exact NO.right_app hc.1 (by omega) hc.2 (by show NO.placeI l o.id<0;omega)
theorem closeS_right {l:List Ord} {id:ByteArray} (h:(NO.closeS l id).2=0):NO.rightB (NO.closeS l id).1=true:=by
 unfold NO.closeS at h ⊢
 split
 ·rename_i hc;rw[if_pos hc]at h;exact absurd h (by simp)
 ·rename_i hc
  rw[if_neg hc]at h
  split
  ·rename_i hc2;rw[if_pos hc2]at h;exact absurd h (by simp)
  ·rename_i hc2
   have hR:NO.rightB l=true:=by simpa using hc
   obtain ⟨hp,hp0,ho⟩:=NO.openI_spec hc2
   have hlt:=(NO.placeI_lt l id).2
   have hm:=((NO.Zy.1 hR).2 (NO.openI l id).toNat (by omega)).1
   exact NO.right_set hR rfl hm
theorem fillS_right {l:List Ord} {id:ByteArray} {q p:Int} (h:(NO.fillS l id q p).2=0):NO.rightB (NO.fillS l id q p).1=true:=by
 unfold NO.fillS at h ⊢
 split
 ·rename_i hc;rw[if_pos hc]at h;exact absurd h (by simp)
 ·rename_i hc
  rw[if_neg hc]at h
  split
  ·rename_i hc2;rw[if_pos hc2]at h;exact absurd h (by simp)
  ·rename_i hc2
   rw[if_neg hc2]at h
   split
   ·rename_i hc3;rw[if_pos hc3]at h;exact absurd h (by simp)
   ·rename_i hc3
    rw[if_neg hc3]at h
    split
    ·rename_i hc4;rw[if_pos hc4]at h;exact absurd h (by simp)
    ·have hR:NO.rightB l=true:=by simpa using hc
     obtain ⟨hp,hp0,ho⟩:=NO.openI_spec hc2
     have hlt:=(NO.placeI_lt l id).2
     have hm:=((NO.Zy.1 hR).2 (NO.openI l id).toNat (by omega)).1
     refine NO.right_set hR rfl ?_
     have hle:NO.leftI (l.getD (NO.openI l id).toNat default)=(l.getD (NO.openI l id).toNat default).qty - (l.getD (NO.openI l id).toNat default).done:=by
      rw[NO.leftI,if_pos ⟨hm,by rw[←hp];exact ho⟩]
     generalize l.getD (NO.openI l id).toNat default=x at hm hle hc3 ⊢
     have hs:=NO.mayB_spec hm
     simp only[NO.mayB,NO.flO,Bool.and_eq_true,decide_eq_true_eq]at hm ⊢
     rw[hle]at hc3
     refine ⟨⟨hm.1.1,?_⟩,?_⟩
     ·exact decide_eq_true (by omega)
     ·exact decide_eq_true (by omega)
theorem changeS_right {l:List Ord} {old id:ByteArray} {q p:Int} (h:(NO.changeS l old id q p).2=0):NO.rightB (NO.changeS l old id q p).1=true:=by
 unfold NO.changeS at h ⊢
 split
 ·rename_i hc;rw[if_pos hc]at h;exact absurd h (by simp)
 ·rename_i hc
  rw[if_neg hc]at h
  split
  ·rename_i hc2;rw[if_pos hc2]at h;exact absurd h (by simp)
  ·rename_i hc2
   rw[if_neg hc2]at h
   split
   ·rename_i hc3;rw[if_pos hc3]at h;exact absurd h (by simp)
   ·rename_i hc3
    rw[if_neg hc3]at h
    split
    ·rename_i hc4;rw[if_pos hc4]at h;exact absurd h (by simp)
    ·rename_i hc4
     rw[if_neg hc4]at h
     split
     ·rename_i hc5;rw[if_pos hc5]at h;exact absurd h (by simp)
     ·rename_i hc5
      have hR:NO.rightB l=true:=by simpa using hc
      obtain ⟨hp,hp0,ho⟩:=NO.openI_spec hc2
      have hlt:=(NO.placeI_lt l old).2
      have hm:=((NO.Zy.1 hR).2 (NO.openI l old).toNat (by omega)).1
      have hset:NO.rightB (l.set (NO.openI l old).toNat (NO.shut (l.getD (NO.openI l old).toNat default)))=true:=NO.right_set hR rfl hm
      refine NO.right_app hset (by rw[List.length_set];omega) (by simpa using hc3) ?_
      have hid:(l.set (NO.openI l old).toNat (NO.shut (l.getD (NO.openI l old).toNat default))).map NO.Ord.id=l.map NO.Ord.id:=NO.map_set_id _ _ _ rfl
      show NO.placeI _ id<0
      rw[NO.placeI_congr hid];omega
theorem nodup_le {α:Type} [DecidableEq α]:∀ {l m:List α},l.Nodup→(∀a,a∈l→a∈m)→l.length≤m.length
 | [],_,_,_=>Nat.zero_le _
 | a::l,m,h,hs=>by
  rw[List.nodup_cons]at h
  have ha:=hs a (List.mem_cons_self ..)
  have:=nodup_le (l:=l) (m:=m.erase a) h.2 fun b hb=>(List.mem_erase_of_ne (fun e=>h.1 (by rw[←e];exact hb))).2 (hs b (List.mem_cons_of_mem _ hb))
  rw[List.length_erase_of_mem ha]at this
  have:=List.length_pos_of_mem ha
  rw[List.length_cons];omega
theorem eqB_iff {a b:ByteArray}:eqB a b=true↔a=b:=by
 rw[beq_iff_eq]
 constructor
 ·intro h
  cases a with|mk a=>cases b with|mk b=>cases a;cases b;simp_all
 ·rintro rfl;rfl
theorem any_eqB {l:List ByteArray} {s:ByteArray}:l.any (eqB s)=true↔s∈l:=by
 rw[List.any_eq_true]
 constructor
 ·rintro ⟨x,hx,h⟩;rw[eqB_iff.1 h];exact hx
 ·intro h;exact ⟨s,h,eqB_iff.2 rfl⟩
theorem getD_memF {l:List Fil} {i:Nat} (h:i<l.length):l.getD i default∈l:=by
 rw[List.getD_eq_getElem?_getD,List.getElem?_eq_getElem h];exact List.getElem_mem h
structure keepP (b c:Bk) (x:Exe) (e:Int):Prop where
 err:e≠0→c=b
 rng:0≤e∧e≤6
 time:e=0→b.clock≤x.time
 ids:c.ids=b.ids
 clock:c.clock=b.clock
 bad:c.bad=b.bad
 ords:NO.rightB c.ords=true
 names:c.fills.map (·.id)=b.fills.map (·.id)∨(e=0∧c.fills.map (·.id)=b.fills.map (·.id)++[x.id])
 fills:∀f,f∈c.fills→NO.amountB f.qty=true∧NO.amountB f.price=true∧0≤f.time∧(f.time≤b.clock∨f.time=x.time)
theorem Yc {b:Bk} {x:Exe} {e:Int} (h:bkP b) (he:1≤e∧e≤6):keepP b b x e where
 err:=fun _=>rfl
 rng:=⟨by omega,he.2⟩
 time:=fun h=>by omega
 ids:=rfl
 clock:=rfl
 bad:=rfl
 ords:=h.ords
 names:=.inl rfl
 fills:=fun f hf=>by have:=h.fills f hf;exact ⟨this.1,this.2.1,this.2.2.1,.inl this.2.2.2.1⟩
theorem keep_ords {b:Bk} {x:Exe} {l:List Ord} (h:bkP b) (ht:b.clock≤x.time) (hl:NO.rightB l=true):keepP b { b with ords:=l } x 0 where
 err:=fun h=>absurd rfl h
 rng:=by omega
 time:=fun _=>ht
 ids:=rfl
 clock:=rfl
 bad:=rfl
 ords:=hl
 names:=.inl rfl
 fills:=fun f hf=>by have:=h.fills f hf;exact ⟨this.1,this.2.1,this.2.2.1,.inl this.2.2.2.1⟩
theorem keep_set {b:Bk} {x:Exe} {i:Nat} {g:Fil} (h:bkP b) (ht:b.clock≤x.time) (hi:i<b.fills.length) (hid:g.id=(b.fills.getD i default).id) (hg:NO.amountB g.qty=true∧NO.amountB g.price=true∧g.time=(b.fills.getD i default).time) :
 keepP b { b with fills:=b.fills.set i g } x 0 where
 err:=fun h=>absurd rfl h
 rng:=by omega
 time:=fun _=>ht
 ids:=rfl
 clock:=rfl
 bad:=rfl
 ords:=h.ords
 names:=by
  left
  show (b.fills.set i g).map (·.id)=b.fills.map (·.id)
  rw[List.map_set]
  apply List.ext_getElem?
  intro j
  by_cases e:i=j
  ·subst e
   rw[List.getElem?_set_self (by simpa using hi),hid,List.getD_eq_getElem?_getD,List.getElem?_map,List.getElem?_eq_getElem hi]
   rfl
  ·rw[List.getElem?_set_ne e]
 fills:=fun f hf=>by
  rcases List.mem_or_eq_of_mem_set hf with hf|rfl
  ·have:=h.fills f hf;exact ⟨this.1,this.2.1,this.2.2.1,.inl this.2.2.2.1⟩
  ·have:=h.fills _ (getD_memF hi)
   exact ⟨hg.1,hg.2.1,by rw[hg.2.2];exact this.2.2.1,.inl (by rw[hg.2.2];exact this.2.2.2.1)⟩
theorem amend_keep {b:Bk} {x:Exe} (h:bkP b) (hx:exP x) (ht:b.clock≤x.time):keepP b (bamendS b x).1 x (bamendS b x).2:=by
 unfold bamendS
 split
 ·exact Yc h (by dsimp only;omega)
 ·split
  ·exact Yc h (by dsimp only;omega)
  ·split
   ·exact Yc h (by dsimp only;omega)
   ·have hlt:=(fstI_lt (fun f:Fil=>eqB f.id x.ref) b.fills).2
    have hi:(refI b.fills x).toNat<b.fills.length:=by
     have:refI b.fills x<b.fills.length:=hlt
     omega
    have hf:=h.fills _ (getD_memF hi)
    split
    ·exact keep_set h ht hi rfl ⟨hf.1,hf.2.1,rfl⟩
    ·split
     ·exact Yc h (by dsimp only;omega)
     ·split
      ·exact Yc h (by dsimp only;omega)
      ·exact keep_set h ht hi rfl ⟨hx.qty,hx.price,rfl⟩
theorem fill_keep {b:Bk} {x:Exe} (h:bkP b) (hx:exP x) (ht:b.clock≤x.time):keepP b (bfillS b x).1 x (bfillS b x).2:=by
 unfold bfillS
 split
 ·rename_i h0
  exact {
   err:=fun h=>absurd rfl h
   rng:=by dsimp only;omega
   time:=fun _=>ht
   ids:=rfl
   clock:=rfl
   bad:=rfl
   ords:=fillS_right h0
   names:=.inr ⟨rfl,by simp[filX]⟩
   fills:=fun f hf=>by
    rcases List.mem_append.1 hf with hf|hf
    ·have:=h.fills f hf;exact ⟨this.1,this.2.1,this.2.2.1,.inl this.2.2.2.1⟩
    ·rw[List.mem_singleton]at hf
     subst hf
     exact ⟨hx.qty,hx.price,hx.time.1,.inr rfl⟩ }
 ·split
  ·exact Yc h (by dsimp only;omega)
  ·split<;>exact Yc h (by dsimp only;omega)
theorem apply_keep {b:Bk} {x:Exe} (h:bkP b) (hx:exP x):keepP b (applyS b x).1 x (applyS b x).2:=by
 unfold applyS
 split
 ·exact Yc h (by dsimp only;omega)
 ·rename_i ht
  have ht:b.clock≤x.time:=by omega
  split
  ·split
   ·rename_i h0;exact keep_ords h ht (newS_right h0)
   ·exact Yc h (by dsimp only;omega)
  ·split
   ·exact amend_keep h hx ht
   ·generalize (if x.kind=4 then x.ref else x.ord)=id
    split
    ·exact Yc h (by dsimp only;omega)
    ·split
     ·exact Yc h (by dsimp only;omega)
     ·split
      ·exact fill_keep h hx ht
      ·split
       ·unfold breplS
        split
        ·rename_i h0;exact keep_ords h ht (changeS_right h0)
        ·split<;>exact Yc h (by dsimp only;omega)
       ·split
        ·rename_i h0;exact keep_ords h ht (closeS_right h0)
        ·exact Yc h (by dsimp only;omega)
theorem ids_right {b:Bk} {s:ByteArray} (h:bkP b) (hl:b.ids.length<256) (hs:s∉b.ids):bkP { b with ids:=b.ids++[s] } where
 ords:=h.ords
 fl:=h.fl
 il:=by show (b.ids++[s]).length≤256;rw[List.length_append,List.length_singleton];omega
 clock:=h.clock
 bad:=h.bad
 ids:=by
  show (b.ids++[s]).Nodup
  rw[List.nodup_append]
  refine ⟨h.ids,by simp,fun a ha b hb=>?_⟩
  rw[List.mem_singleton]at hb
  rintro rfl
  exact hs (by rw[←hb];exact ha)
 fills:=fun f hf=>by have:=h.fills f hf;exact ⟨this.1,this.2.1,this.2.2.1,this.2.2.2.1,List.mem_append_left _ this.2.2.2.2⟩
 names:=h.names
theorem take_right {b:Bk} {x:Exe} (h:bkP b) (hx:exP x):bkP (takeS b x).1:=by
 unfold takeS
 split
 ·exact h
 ·rename_i hc
  split
  ·exact h
  ·rename_i hn
   have hn:x.id∉b.ids:=fun hm=>hn (any_eqB.2 hm)
   have hl:b.ids.length<256:=by omega
   have h1:=ids_right h hl hn
   have k:=apply_keep h1 hx
   generalize hr:applyS { b with ids:=b.ids++[x.id] } x=r at k ⊢
   obtain ⟨c,e⟩:=r
   dsimp only at k ⊢
   split
   ·rename_i he
    subst he
    have ht:=k.time rfl
    have hnm:(c.fills.map (·.id)).Nodup∧(∀f,f∈c.fills→f.id∈b.ids++[x.id]):=by
     rcases k.names with hk|⟨_,hk⟩
     ·refine ⟨by rw[hk];exact h1.names,fun f hf=>?_⟩
      have:f.id∈c.fills.map (·.id):=List.mem_map.2 ⟨f,hf,rfl⟩
      rw[hk]at this
      obtain ⟨g,hg,e⟩:=List.mem_map.1 this
      rw[←e];exact (h1.fills g hg).2.2.2.2
     ·refine ⟨?_,fun f hf=>?_⟩
      ·rw[hk,List.nodup_append]
       refine ⟨h1.names,by simp,fun a ha b' hb=>?_⟩
       rw[List.mem_singleton]at hb
       obtain ⟨g,hg,e⟩:=List.mem_map.1 ha
       rintro rfl
       exact hn (by rw[←hb,←e];exact (h.fills g hg).2.2.2.2)
      ·have:f.id∈c.fills.map (·.id):=List.mem_map.2 ⟨f,hf,rfl⟩
       rw[hk]at this
       rcases List.mem_append.1 this with this|this
       ·obtain ⟨g,hg,e⟩:=List.mem_map.1 this
        rw[←e];exact (h1.fills g hg).2.2.2.2
       ·exact List.mem_append_right _ this
    have hcl:b.clock≤x.time:=ht
    exact {
     ords:=k.ords
     fl:=by
      have:=nodup_le hnm.1 (m:=b.ids++[x.id]) fun a ha=>by
       obtain ⟨g,hg,e⟩:=List.mem_map.1 ha
       rw[←e];exact hnm.2 g hg
      rw[List.length_map,List.length_append,List.length_singleton]at this
      show c.fills.length≤256
      omega
     il:=by show c.ids.length≤256;rw[k.ids];exact h1.il
     clock:=by show 0≤x.time∧x.time≤_;exact hx.time
     bad:=by show 0≤c.bad∧c.bad≤6;rw[k.bad];exact h1.bad
     ids:=by show c.ids.Nodup;rw[k.ids];exact h1.ids
     fills:=fun f hf=>by
      have:=k.fills f hf
      refine ⟨this.1,this.2.1,this.2.2.1,?_,?_⟩
      ·show f.time≤x.time
       rcases this.2.2.2 with h|h
       ·have h:f.time≤b.clock:=h
        omega
       ·omega
      ·show f.id∈c.ids
       rw[k.ids];exact hnm.2 f hf
     names:=hnm.1 }
   ·rename_i he
    have e1:=k.err he
    subst e1
    exact { h1 with bad:=k.rng }
section
open Go.RowKit Go.Maps Go.Sort Go.Shelf
theorem rowS_one {l:List ByteArray} {i j:Nat} {r:List V} {v:V} (hi:(sR l)[i]?=some r) (hj:r[j]?=some v):j=0∧∃s,l[i]?=some s∧v=.x (.string s):=by
 rw[List.getElem?_map]at hi
 obtain ⟨s,hs,rfl⟩:=Option.map_eq_some_iff.1 hi
 cases j with
 | zero=>cases hj;exact ⟨rfl,s,hs,rfl⟩
 | succ j=>simp at hj
theorem sort_c (l:List ByteArray) (hl:l.length≤1000000):ACall Tryz.prog 106 [.row 1 (sR l)] [.e (.c (.o 0 l.length))] (.t []) [.row 1 (sR (sortS l))]:=by
 refine ⟨⟨_,Tryz.func106,by kernel_rfl,by kernel_rfl⟩,fun own0 w ρ vs hm ha=>?_⟩
 match vs,ha with
 | [u],⟨hu,_⟩ =>
  obtain ⟨m,hp,hv⟩:=hu
  obtain ⟨hlen,m',hp',hb⟩:=hm.blks 0 _ rfl
  rw[hp]at hp'
  cases hp'
  cases m with
  | nil =>
   obtain ⟨hn,a,rfl⟩:=hv
   have:l=[]:=List.eq_nil_of_length_eq_zero hn
   subst this
   refine (Any.slices_Sort_string_none layS a 0 w).mono ?_
   rintro e w' ⟨rfl,rfl⟩
   have e:sortS []=[]:=by simp[sortS]
   rw[e]
   exact ⟨_,ρ,rfl,Sub.refl _,⟨[],rfl,trivial⟩,hm⟩
  | blk b base cap =>
   obtain ⟨rfl,hcap⟩:=hv
   obtain ⟨h1,cs,T,fr,hh,hf,hsz,hcells⟩:=hb
   have hblk:b<w.heap.size:=(Array.getElem?_eq_some_iff.1 hh).1
   have hlb:base+l.length≤cs.size:=by omega
   have hin:∀j (hj:j<l.length),cs[base+j]?=some (.string (l.getD j default)):=fun j hj=>by
    obtain ⟨x,hx,hr⟩:=hcells j [.x (.string (l.getD j default))] 0 _ (by simp[hj]) rfl
    cases hr
    rw[←hx];simp
   have hnf:∀k,k<cs.size→¬(fr.1≤k∧k<fr.2):=fun k hk=>hf.1.off k hk
   have hH:Holds encStr w b base ((l.map fun s=>s.data.toList).toArray):=fun j hj=>by
    have hj:j<l.length:=by simpa using hj
    constructor
    ·simp only[World.cell?,hh,Option.isSome_none,Bool.false_eq_true,if_false]
     rw[hin j hj]
     simp[encStr,hj]
    ·simp only[World.frozen?,hh]
     have:=hnf (base+j) (by omega)
     simpa using this
   have hS:=Any.slices_Sort_string layS b base cap (l.map fun s=>s.data.toList) w hH hblk (by simp;omega)
   rw[List.length_map]at hS
   refine hS.mono ?_
   rintro e w' ⟨rfl,n,os,rfl⟩
   refine ⟨_,ρ,rfl,Sub.refl _,⟨[],rfl,trivial⟩,?_⟩
   have hM:((l.map fun s=>s.data.toList).mergeSort fun x y=>decide (x≤y)).length=l.length:=by rw[List.length_mergeSort,List.length_map]
   have hb':(grow (putRow encStr (Sort.ahead w n) b base ((l.map fun s=>s.data.toList).mergeSort fun x y=>decide (x≤y)).toArray) os).heap[b]?=some (.cells (putCells encStr base ((l.map fun s=>s.data.toList).mergeSort fun x y=>decide (x≤y)).toArray cs) T fr):=by
    rw[heap_grow_old _ _ (by simpa using hblk)]
    simp[putRow,mapBlock,Sort.ahead,Array.getElem?_modify,hh,onCells]
   obtain ⟨W',hW'⟩:∃W',grow (putRow encStr (Sort.ahead w n) b base ((l.map fun s=>s.data.toList).mergeSort fun x y=>decide (x≤y)).toArray) os=W':=⟨_,rfl⟩
   have f1:W'.os=w.os:=by rw[←hW'];rfl
   have f2:W'.tape=w.tape:=by rw[←hW'];rfl
   have f3:W'.output=w.output:=by rw[←hW'];rfl
   have f4:w.heap.size≤W'.heap.size:=by rw[←hW'];simp
   have f5:∀k,k<w.heap.size→k≠b→W'.heap[k]?=w.heap[k]?:=fun k hk hne=>by
    rw[←hW',heap_grow_old _ _ (by simpa using hk)]
    have:b≠k:=fun e=>hne (by rw[e])
    simp[putRow,mapBlock,Sort.ahead,Array.getElem?_modify,this]
   rw[hW']at hb' ⊢
   clear hW'
   have hr:RepB W' (Ow own0 ρ fun i=>[Blk.row 1 (sR l)][i]?) ρ 0 (.row 1 (sR (sortS l))):=by
    refine ⟨fun r hr=>?_,_,hp,?_,_,T,fr,hb',hf.size (by simp[putCells]),?_,fun i r j v hi hj=>?_⟩
    ·obtain ⟨s,_,rfl⟩:=List.mem_map.1 hr;rfl
    ·rw[List.length_map,Yx];exact hcap
    ·simpa[putCells] using hsz
    ·obtain ⟨rfl,s,hs,rfl⟩:=rowS_one hi hj
     have hil:=(List.getElem?_eq_some_iff.1 hs).1
     rw[Yx]at hil
     refine ⟨.string s,?_,.x _ rfl⟩
     unfold sortS at hs
     rw[List.getElem?_map]at hs
     obtain ⟨d,hd,rfl⟩:=Option.map_eq_some_iff.1 hs
     have hk:base+i<cs.size:=by omega
     have e1:base+i*1+0=base+i:=by omega
     rw[e1]
     simp only[putCells,Array.getElem?_mapIdx,Array.getElem?_eq_getElem hk,Option.map_some,Nat.add_sub_cancel_left,List.size_toArray,hM]
     rw[if_pos ⟨by omega,by omega⟩]
     simp[encStr,hd]
   have:=(mem_put hm hp rfl rfl f1 f2 f3 f4 f5 hb' hr).1
   have eH:upd (fun i=>[Blk.row 1 (sR l)][i]?) 0 (some (.row 1 (sR (sortS l))))=fun i=>[Blk.row 1 (sR (sortS l))][i]?:=by
    funext i
    cases i with
    | zero=>rfl
    | succ i=>simp[upd]
   rwa [eH]at this
theorem ba_mk (s:ByteArray):(⟨s.data.toList.toArray⟩:ByteArray)=s:=by cases s with|mk d=>simp
theorem sortS_perm (l:List ByteArray):(sortS l).Perm l:=by
 have h:=(List.mergeSort_perm (l.map fun s=>s.data.toList) fun x y=>decide (x≤y)).map fun d=>(⟨d.toArray⟩:ByteArray)
 rw[List.map_map]at h
 have e:(l.map ((fun d=>(⟨d.toArray⟩:ByteArray)) ∘ fun s=>s.data.toList))=l:=by
  conv=>rhs;rw[←List.map_id l]
  exact List.map_congr_left fun s _=>ba_mk s
 rw[e]at h
 exact h
theorem twB_of {l:List ByteArray} (h:l.Nodup):twB l=false:=by
 rw[twB,List.any_eq_false]
 intro i hi
 have hi:=List.mem_range.1 hi
 rw[Bool.and_eq_true,decide_eq_true_eq]
 rintro ⟨h1,h2⟩
 have h2:=eqB_iff.1 h2
 rw[List.getD_eq_getElem?_getD,List.getD_eq_getElem?_getD,List.getElem?_eq_getElem hi,List.getElem?_eq_getElem (by omega)]at h2
 have:=(List.nodup_iff_pairwise_ne.1 h)
 rw[List.pairwise_iff_getElem]at this
 exact this (i - 1) i (by omega) hi (by omega) h2.symm
theorem twB_sort {l:List ByteArray} (h:l.Nodup):twB (sortS l)=false:=twB_of ((sortS_perm l).nodup_iff.2 h)
theorem sortS_pair (l:List ByteArray):(sortS l).Pairwise fun a b=>ltB b a=false:=by
 unfold sortS
 rw[List.pairwise_map]
 refine (List.pairwise_mergeSort (le:=fun x y=>decide (x≤y)) (fun a b c h1 h2=>?_) (fun a b=>?_) _).imp fun {a b} h=>?_
 ·simp only[decide_eq_true_eq]at *;exact List.le_trans h1 h2
 ·simp only[Bool.or_eq_true,decide_eq_true_eq];exact List.le_total a b
 ·simp only[decide_eq_true_eq]at h
  rw[ltB,bytesLess_eq]
  simp only[decide_eq_false_iff_not]
  exact List.not_lt.2 h
def aheadN (l:List ByteArray) (x:ByteArray):Nat:=(l.takeWhile fun y=>ltB y x).length
theorem takeWhile_lt {l:List ByteArray} {x:ByteArray}:∀j,j<aheadN l x→ltB (l.getD j default) x=true:=by
 intro j hj
 unfold aheadN at hj
 have hm:=List.getElem_mem hj
 have h1:=List.all_eq_true.1 List.all_takeWhile _ hm
 have e:(l.takeWhile fun y=>ltB y x)[j]=l.getD j default:=by
  have hp:=List.takeWhile_prefix (fun y=>ltB y x) (l:=l)
  have:=hp.getElem hj
  rw[this,List.getD_eq_getElem?_getD,List.getElem?_eq_getElem (Nat.lt_of_lt_of_le hj hp.length_le)]
  rfl
 rw[e]at h1
 exact h1
theorem takeWhile_end {l:List ByteArray} {x:ByteArray} (h:aheadN l x<l.length):ltB (l.getD (aheadN l x) default) x=false:=by
 induction l with
 | nil=>simp at h
 | cons a l ih =>
  unfold aheadN at h ⊢
  rw[List.takeWhile_cons]at h ⊢
  split
  ·rename_i ha
   rw[if_pos ha]at h
   simp only[List.length_cons]at h ⊢
   have:=ih (by unfold aheadN;omega)
   simpa[aheadN] using this
  ·rename_i ha
   simpa using ha
theorem search_mem (l:List ByteArray) (x:ByteArray) (hl:l.length≤1000000) (hx:x∈l):∃n:Nat,ACall Tryz.prog 105 [] [ssD (sortS l),StD x] (.t [.c (.v (vI n)),.c (.v (.x (.bool true)))]) []:=by
 have hp:=sortS_pair l
 rw[List.pairwise_iff_getElem]at hp
 have hlen:=Yx l
 have gd:∀j (hj:j<(sortS l).length),(sortS l).getD j default=(sortS l)[j]:=fun j hj=>by rw[List.getD_eq_getElem?_getD,List.getElem?_eq_getElem hj];rfl
 have hn:aheadN (sortS l) x≤(sortS l).length:=(List.takeWhile_prefix _).length_le
 have h2:∀j,aheadN (sortS l) x≤j→j<(sortS l).length→ltB ((sortS l).getD j default) x=false:=by
  intro j h1 hj
  by_cases e:aheadN (sortS l) x=j
  ·have:=takeWhile_end (l:=sortS l) (x:=x) (by omega)
   rwa [e]at this
  ·have h0:=takeWhile_end (l:=sortS l) (x:=x) (by omega)
   have hh:=hp _ j (by omega) hj (by omega:aheadN (sortS l) x<j)
   rw[gd _ (by omega)]at h0
   rw[gd j hj]
   cases hlt:ltB (sortS l)[j] x with
   | false=>rfl
   | true =>
    exfalso
    rcases NA.bl_total ((sortS l)[aheadN (sortS l) x]'(by omega)).data.toList (sortS l)[j].data.toList with h|h|h
    ·have:=NA.bl_trans _ _ _ h hlt
     rw[ltB]at h0;rw[h0]at this;cases this
    ·rw[ltB,←h]at hlt;rw[ltB]at h0;rw[h0]at hlt;cases hlt
    ·rw[ltB]at hh;rw[hh]at h;cases h
 have hc:=searchS_c (sortS l) x (by omega) _ hn takeWhile_lt h2
 have hxs:x∈sortS l:=(sortS_perm l).mem_iff.2 hx
 obtain ⟨i,hi,hix⟩:=List.getElem_of_mem hxs
 have hge:aheadN (sortS l) x≤i:=by
  rcases Nat.lt_or_ge i (aheadN (sortS l) x) with h|h
  ·have:=takeWhile_lt i h
   rw[gd i hi,hix,ltB,NA.bl_irr]at this;cases this
  ·exact h
 have heq:eqB ((sortS l).getD (aheadN (sortS l) x) default) x=true:=by
  rw[eqB_iff]
  have h0:=h2 _ (Nat.le_refl _) (by omega)
  by_cases e:aheadN (sortS l) x=i
  ·rw[e,gd i hi,hix]
  ·have hh:=hp _ i (by omega) hi (by omega:aheadN (sortS l) x<i)
   rw[gd _ (by omega)]at h0 ⊢
   rw[hix]at hh
   rcases NA.bl_total ((sortS l)[aheadN (sortS l) x]'(by omega)).data.toList x.data.toList with h|h|h
   ·rw[ltB]at h0;rw[h0]at h;cases h
   ·exact NA.ba_eq h
   ·rw[ltB]at hh;rw[hh]at h;cases h
 rw[heq,decide_eq_true (by omega)]at hc
 exact ⟨_,hc⟩
end
theorem take_sR (l:List ByteArray) (n:Nat) (h:n=l.length):List.take n (l.map fun s=>[V.x (.string s)])=l.map fun s=>[V.x (.string s)]:=by
 subst h;exact List.take_of_length_le (by simp)
theorem app_sR (l:List ByteArray) (s:ByteArray):(l.map fun s=>[V.x (.string s)])++[[V.x (.string s)]]=(l++[s]).map fun s=>[V.x (.string s)]:=by simp
theorem names_row (l:List Fil) (i:Nat) (h:i<l.length):sR ((l.take (i+1)).map (·.id))=List.take i (sR ((l.take i).map (·.id)))++[[V.x (.string (l.getD i default).id)]]:=by
 have e:List.take i (sR ((l.take i).map (·.id)))=sR ((l.take i).map (·.id)):=List.take_of_length_le (by simp[Nat.min_le_left])
 rw[e,List.take_add_one,List.getElem?_eq_getElem h,List.getD_eq_getElem?_getD,List.getElem?_eq_getElem h]
 simp only[Option.toList_some,List.map_append,List.map_cons,List.map_nil,Option.getD_some]
def qBD1:=PLift.up (An @Z3 (An @Zh (An @take_sR (An @app_sR @List.take_length.{0}))))
theorem bkRight_c (b:Bk) (h:bkP b):ACall Tryz.prog 35 [] [bkD b] (B true) []:=by
 have hfl:=h.fl
 have hil:=h.il
 have hclock:=h.clock
 have hbad:=h.bad
 have hord:ACall Tryz.prog 100 [] [NO.osD b.ords] (B true) []:=by rw[←h.ords];exact NO.right_c _
 have hsorted:=sorted_c b.ids (by omega)
 have htw1:=twice_c (sortS b.ids) (by rw[Yx];omega) false (twB_sort h.ids)
 refine Ac Tryz.func35 ?_
 refine Wk qBD1.1 (An @hord (An @hsorted (An @htw1 @values_c))) ?_
 refine Cc ?_ ?_<;>intro hc<;>(try simp only[Za,ne_eq]at hc)
 ·exfalso;omega
 ·refine Wk qBD1.1 (An @hord (An @hsorted (An @htw1 @values_c))) ?_
  refine Cc ?_ ?_<;>intro hc<;>(try simp only[Za,ne_eq]at hc)
  ·contradiction
  ·refine Wk qBD1.1 (An @hord (An @hsorted (An @htw1 @values_c))) ?_
   refine AWp.loop (fun i:Nat=>mkSt [(1,.p 0 0),(3,ssD (sortS b.ids)),(4,.e (.c (.o 1 i))),(52,fsD b.fills),(53,I b.fills.length),(54,I i)] [(0,.loc (bkC b)),(1,.row 1 (sR ((b.fills.take i).map (·.id))))] 2)
    (fun i=>i≤b.fills.length) (fun i=>b.fills.length - i) 0 (Nat.zero_le _) (by refine Le.of (τ:=[]) (ν:=[1]) (by kernel_rfl) ?_ ?_<;>((first|exact Lw qBD1.1 trivial|refine Lw qBD1.1 ?_);try (first|omega|rfl))) fun i hi=>?_
   refine Wk qBD1.1 (An @hord (An @hsorted (An @htw1 @values_c))) ?_
   refine Cc ?_ ?_<;>intro hc<;>(try simp only[Za,ne_eq]at hc)
   ·have hil:i<b.fills.length:=by omega
    obtain ⟨hq,hp,ht0,ht1,hm⟩:=h.fills _ (getD_memF hil)
    have ham1:=amount_c (b.fills.getD i default).qty
    have ham2:=amount_c (b.fills.getD i default).price
    rw[hq]at ham1
    rw[hp]at ham2
    obtain ⟨n,hsearch⟩:=search_mem b.ids (b.fills.getD i default).id (by omega) hm
    refine Wk qBD1.1 (An @hord (An @hsorted (An @htw1 (An @ham1 (An @ham2 (An @hsearch @values_c)))))) ?_
    refine Cc ?_ ?_<;>intro hc<;>(try simp only[Za,ne_eq]at hc)
    ·exfalso;omega
    ·refine Wk qBD1.1 (An @hord (An @hsorted (An @htw1 (An @ham1 (An @ham2 (An @hsearch @values_c)))))) ?_
     refine Cc ?_ ?_<;>intro hc<;>(try simp only[Za,ne_eq]at hc)
     ·contradiction
     ·refine Wk qBD1.1 (An @hord (An @hsorted (An @htw1 (An @ham1 (An @ham2 (An @hsearch @values_c)))))) ?_
      refine Zb (τ:=ren [(1,2690)]) (ν:=[]) (i+1) (show i+1≤b.fills.length by omega) (by omega) ?_
      refine Le.of (by kernel_rfl) ?_ ?_<;>((first|exact Lw qBD1.1 trivial|refine Lw qBD1.1 ?_);try (first|omega|rfl|exact names_row _ _ hil))
   ·have e:i=b.fills.length:=by omega
    subst e
    have hsort:=sort_c (b.fills.map (·.id)) (by rw[List.length_map];omega)
    rw[List.length_map]at hsort
    have hlen:(sortS (b.fills.map (·.id))).length=b.fills.length:=by rw[Yx,List.length_map]
    have htw2:=twice_c (sortS (b.fills.map (·.id))) (by rw[Yx,List.length_map];omega) false (twB_sort h.names)
    repeat' (first|((fail_if_success clear hK);change AWp _ _ _ _ _ _;first|refine AWp.seq ?_|refine AWp.text (own:=(oF [106])) tG_ok (by kernel_rfl) (fun K hK=>?_)|refine AWp.draw (own:=(oF [106])) tG_ok mixed (by kernel_rfl) (by kernel_rfl) (fun K hK=>?_)|refine AWp.skip ?_|refine AWp.ret ?_|refine AWp.exit ?_|refine AWp.label ?_|refine AWp.block ?_)|(revert hK;intro hK;first|(with_reducible refine hK _ _ _ ?_;clear hK K)|(with_reducible refine hK _ _ _ ?_ ?_;(focus kernel_rfl);clear hK K)|((with_reducible change CallS _ _ _ _ _ _);(first|refine CallS.of hord ?_|refine CallS.of (values_c _) ?_|refine CallS.of hsorted ?_|refine CallS.of htw1 ?_|refine CallS.of ham1 ?_|refine CallS.of ham2 ?_|refine CallS.of hsearch ?_|refine CallS.of hsort ?_|refine CallS.of htw2 ?_))|(with_reducible refine And.intro ?_ ?_)|(simp (disch:=omega) only[↓reduceIte,Zo,backT,pos,idsB,idsC,nodup,live,makeSliceE,viewE,viewFE,appendUE,appendFE,capFE,copyE,copySrc,clearE,guardB,isNilOp,nilS,withTy,splice,lenE,appendE,sliceE,boundE,indexAddrE,indexE,buildE,fillE,buildSliceE,partsE,builtinE,minE,minI,convE,convHE,appendNE,capE,D.x,id_eq,eq_self,if_true,if_false,ne_eq,implies_true,Nat.reduceAdd,Nat.reduceMul,Nat.reduceSub,Nat.reduceEqDiff,Nat.reduceLT,Nat.reduceLeDiff,reduceCtorEq,Z3,Zh,take_sR,app_sR,List.take_length,Zp,forall_const,Nat.reduceBEq,Int.reduceEq,Int.reduceToNat,bne_self_eq_false,true_and,tyAll])|(first|omega|(intro hq;(try simp only[Za,ne_eq,Bool.not_not,Bool.and_true]at hq);first|omega|assumption|(simp_all;done))|(simp_all;done))|(intro (bn:Bool) hbn)))
    first|exact Fn @Tryz.results35 qBD1.1 trivial|refine Fn @Tryz.results35 qBD1.1 ?_
abbrev wC (w:Int×Int):List C:=[.v (vI w.1),.v (vI w.2)]
abbrev wD (w:Int×Int):D:=.e (.a (wC w))
def addW (a b:Int×Int):Int×Int:=(a.1+b.1,a.2+b.2)
def sideW (b:Bool) (q:Int):Int×Int:=if b then (q,0) else (0,q)
def okW (w:Int×Int):Prop:=-4000000000000000000≤w.1∧w.1≤4000000000000000000∧-4000000000000000000≤w.2∧w.2≤4000000000000000000
theorem neg_w (x:Int) (h:-9223372036854775807≤x) (h2:x≤9223372036854775807):IntKind.i64.wrap (-x)=-x:=Zn _ (by omega) (by omega)
def qEX1:=PLift.up (An @Z3 (An @Zh (An @NO.Zf (An @neg_w @List.take_length.{0}))))
theorem Zv (b:Bool) (q:Int):ACall Tryz.prog 72 [] [B b,I q] (wD (sideW b q)) []:=by
 have hb1:True:=trivial
 have hb2:True:=trivial
 have hb3:True:=trivial
 have hb4:True:=trivial
 refine Ac Tryz.func72 ?_
 cases b
 ·refine Wk (An @hb1 (An @hb2 (An @hb3 (An @hb4 qEX1.1)))) trivial ?_
  refine Cc ?_ ?_<;>intro hc<;>(try simp only[Za,ne_eq]at hc)
  ·contradiction
  ·refine Wk (An @hb1 (An @hb2 (An @hb3 (An @hb4 qEX1.1)))) trivial ?_
   first|exact Fn @Tryz.results72 (An @hb1 (An @hb2 (An @hb3 (An @hb4 qEX1.1)))) trivial|refine Fn @Tryz.results72 (An @hb1 (An @hb2 (An @hb3 (An @hb4 qEX1.1)))) ?_
   exact ⟨rfl,rfl⟩
 ·refine Wk (An @hb1 (An @hb2 (An @hb3 (An @hb4 qEX1.1)))) trivial ?_
  refine Cc ?_ ?_<;>intro hc<;>(try simp only[Za,ne_eq]at hc)
  ·refine Wk (An @hb1 (An @hb2 (An @hb3 (An @hb4 qEX1.1)))) trivial ?_
   first|exact Fn @Tryz.results72 (An @hb1 (An @hb2 (An @hb3 (An @hb4 qEX1.1)))) trivial|refine Fn @Tryz.results72 (An @hb1 (An @hb2 (An @hb3 (An @hb4 qEX1.1)))) ?_
   exact ⟨rfl,rfl⟩
  ·contradiction
theorem plus_c (a b:Int×Int) (ha:okW a) (hb:okW b):ACall Tryz.prog 71 [] [wD a,wD b] (wD (addW a b)) []:=by
 unfold okW at ha hb
 have hb1:=Zn (a.1+b.1) (by omega) (by omega)
 have hb2:=Zn (a.2+b.2) (by omega) (by omega)
 have hb3:True:=trivial
 have hb4:True:=trivial
 refine Ac Tryz.func71 ?_
 refine Wk (An @hb1 (An @hb2 (An @hb3 (An @hb4 qEX1.1)))) trivial ?_
 first|exact Fn @Tryz.results71 (An @hb1 (An @hb2 (An @hb3 (An @hb4 qEX1.1)))) trivial|refine Fn @Tryz.results71 (An @hb1 (An @hb2 (An @hb3 (An @hb4 qEX1.1)))) ?_
 exact ⟨rfl,rfl⟩
def finB (b:Bk) (f:Fil):Bool:=decide (10<b.clock - f.time)
theorem final_c (b:Bk) (f:Fil) (hc:0≤b.clock∧b.clock≤4611686018427387904) (hf:0≤f.time∧f.time≤b.clock) (r:Bool) (hr:finB b f=r):ACall Tryz.prog 73 [] [bkD b,fD f] (B r) []:=by
 have hb1:=Zn (b.clock - f.time) (by omega) (by omega)
 have hb2:True:=trivial
 have hb3:True:=trivial
 have hb4:True:=trivial
 refine Ac Tryz.func73 ?_
 refine Wk (An @hb1 (An @hb2 (An @hb3 (An @hb4 qEX1.1)))) trivial ?_
 refine Cc ?_ ?_<;>intro hc<;>(try simp only[Za,ne_eq]at hc)
 ·omega
 ·refine Wk (An @hb1 (An @hb2 (An @hb3 (An @hb4 qEX1.1)))) trivial ?_
  subst hr
  first|exact Fn @Tryz.results73 (An @hb1 (An @hb2 (An @hb3 (An @hb4 qEX1.1)))) trivial|refine Fn @Tryz.results73 (An @hb1 (An @hb2 (An @hb3 (An @hb4 qEX1.1)))) ?_
  rfl
def sumW (l:List (Int×Int)):Int×Int:=l.foldl addW (0,0)
theorem sumW_snoc (l:List (Int×Int)) (x:Int×Int):sumW (l++[x])=addW (sumW l) x:=by simp[sumW]
theorem foldW (l:List (Int×Int)):∀a,l.foldl addW a=addW a (sumW l):=by
 induction l with
 | nil=>intro a;simp[sumW,addW]
 | cons x l ih =>
  intro a
  have h1:=ih (addW a x)
  have h2:=ih (addW (0,0) x)
  rw[sumW,List.foldl_cons,List.foldl_cons,h1,h2]
  simp only[addW,Prod.mk.injEq]
  omega
theorem sumW_cons (x:Int×Int) (l:List (Int×Int)):sumW (x::l)=addW x (sumW l):=by
 rw[sumW,List.foldl_cons,foldW]
 simp[addW]
theorem sumW_take {α:Type} [Inhabited α] (f:α→Int×Int) (l:List α) (i:Nat) (h:i<l.length):sumW ((l.take (i+1)).map f)=addW (sumW ((l.take i).map f)) (f (l.getD i default)):=by
 rw[List.take_add_one,List.map_append,List.getElem?_eq_getElem h,List.getD_eq_getElem?_getD,List.getElem?_eq_getElem h]
 exact sumW_snoc _ _
theorem sumW_le (m:Nat) (l:List (Int×Int)) (h:∀x,x∈l→-(m:Int)≤x.1∧x.1≤m∧-(m:Int)≤x.2∧x.2≤m):-((l.length*m:Nat):Int)≤(sumW l).1∧(sumW l).1≤(l.length*m:Nat)∧-((l.length*m:Nat):Int)≤(sumW l).2∧(sumW l).2≤(l.length*m:Nat):=by
 induction l with
 | nil=>simp[sumW]
 | cons x l ih =>
  have h1:=h x (List.mem_cons_self ..)
  have h2:=ih fun y hy=>h y (List.mem_cons_of_mem _ hy)
  rw[sumW_cons,List.length_cons,Nat.succ_mul]
  simp only[addW]
  omega
def hitW (acc sym:ByteArray) (a s:ByteArray):Bool:=(a.data.toList == acc.data.toList) && (s.data.toList == sym.data.toList)
def pndW (acc sym:ByteArray) (o:Ord):Int×Int:=if hitW acc sym o.acc o.sym then sideW o.buy (o.qty - o.done) else (0,0)
def ordW (acc sym:ByteArray) (o:Ord):Int×Int:=if hitW acc sym o.acc o.sym then sideW o.buy (NO.leftI o) else (0,0)
def filW (b:Bk) (acc sym:ByteArray) (f:Fil):Int×Int :=
 if f.lv && hitW acc sym f.acc f.sym then (if finB b f then addW (sideW f.buy f.qty) (sideW (!f.buy) (-f.qty)) else sideW f.buy f.qty) else (0,0)
def pendW (l:List Ord) (acc sym:ByteArray):Int×Int:=sumW (l.map (pndW acc sym))
def ofW (b:Bk) (acc sym:ByteArray):Int×Int:=addW (sumW (b.fills.map (filW b acc sym))) (sumW (b.ords.map (ordW acc sym)))
theorem hit_t {a b:ByteArray} {c d:ByteArray}:hitW a b c d=true↔(c.data.toList=a.data.toList∧d.data.toList=b.data.toList):=by simp[hitW]
theorem okW_of (n m:Nat) (w:Int×Int) (h:-((n*m:Nat):Int)≤w.1∧w.1≤(n*m:Nat)∧-((n*m:Nat):Int)≤w.2∧w.2≤(n*m:Nat)) (hn:n≤300) (hm:m≤10000000000000):okW w:=by
 have:n*m≤300*10000000000000:=Nat.mul_le_mul hn hm
 unfold okW
 omega
theorem sumW_ok {α:Type} (f:α→Int×Int) (l:List α) (n:Nat) (hl:l.length≤300) (h:∀x,x∈l→-4000000000000≤(f x).1∧(f x).1≤4000000000000∧-4000000000000≤(f x).2∧(f x).2≤4000000000000):okW (sumW ((l.take n).map f)):=by
 refine okW_of (l.take n).length 4000000000000 _ ?_ (by rw[List.length_take];omega) (by decide)
 have:=sumW_le 4000000000000 ((l.take n).map f) fun x hx=>by
  obtain ⟨y,hy,rfl⟩:=List.mem_map.1 hx
  exact h y (List.mem_of_mem_take hy)
 rwa [List.length_map]at this
theorem may_rng {o:Ord} (h:NO.mayB o=true):0≤o.qty - o.done∧o.qty - o.done≤1099511627776:=by
 have:=NO.mayB_spec h;omega
theorem pnd_rng {a s:ByteArray} {o:Ord} (h:NO.mayB o=true):-4000000000000≤(pndW a s o).1∧(pndW a s o).1≤4000000000000∧-4000000000000≤(pndW a s o).2∧(pndW a s o).2≤4000000000000:=by
 have:=may_rng h
 unfold pndW sideW
 split
 ·split<;>(dsimp only;omega)
 ·dsimp only;omega
theorem getD_memO {l:List Ord} {i:Nat} (h:i<l.length):l.getD i default∈l:=by
 rw[List.getD_eq_getElem?_getD,List.getElem?_eq_getElem h];exact List.getElem_mem h
theorem mem_may {l:List Ord} (h:NO.rightB l=true):∀o,o∈l→NO.mayB o=true:=by
 intro o ho
 obtain ⟨i,hi,rfl⟩:=List.getElem_of_mem ho
 have:=((NO.Zy.1 h).2 i hi).1
 rwa [List.getD_eq_getElem?_getD,List.getElem?_eq_getElem hi]at this
theorem okW_side (b:Bool) (q:Int) (h:-4000000000000≤q∧q≤4000000000000):okW (sideW b q):=by
 unfold okW sideW
 split<;>(dsimp only;omega)
theorem addW_0 (w:Int×Int):addW w (0,0)=w:=by simp[addW]
theorem pend_c (l:List Ord) (acc sym:ByteArray) (h:NO.rightB l=true):ACall Tryz.prog 114 [] [NO.osD l,StD acc,StD sym] (wD (pendW l acc sym)) []:=by
 have hright:ACall Tryz.prog 100 [] [NO.osD l] (B true) []:=by rw[←h];exact NO.right_c l
 have hl:=(NO.Zy.1 h).1
 refine Ac Tryz.func114 ?_
 refine Wk qEX1.1 (An @hright @Zv) ?_
 refine Cc ?_ ?_<;>intro hc<;>(try simp only[Za,ne_eq]at hc)
 ·contradiction
 ·refine Wk qEX1.1 (An @hright @Zv) ?_
  refine AWp.loop (fun i:Nat=>mkSt [(1,StD acc),(2,StD sym),(6,.p 0 0),(7,.p 1 0),(14,NO.osD l),(15,I l.length),(16,I i)] [(0,.loc (wC (0,0))),(1,.loc (wC (sumW ((l.take i).map (pndW acc sym)))))] 2)
   (fun i=>i≤l.length) (fun i=>l.length - i) 0 (Nat.zero_le _) (by refine Le.of (τ:=[(1,256)]) (ν:=[]) (by kernel_rfl) ?_ ?_<;>((first|exact Lw qEX1.1 trivial|refine Lw qEX1.1 ?_);try (first|omega|rfl|exact ⟨rfl,rfl⟩))) fun i hi=>?_
  refine Wk qEX1.1 (An @hright @Zv) ?_
  refine Cc ?_ ?_<;>intro hc<;>(try simp only[Za,ne_eq]at hc)
  ·have hil:i<l.length:=by omega
   have hmay:=mem_may h _ (getD_memO hil)
   have hr:=may_rng hmay
   have hs:=sumW_take (pndW acc sym) l i hil
   have hok:=sumW_ok (pndW acc sym) l i (by omega) fun o ho=>pnd_rng (mem_may h o ho)
   generalize ho:l.getD i default=o at hmay hr hs
   refine Wk (An @ho (An @hs qEX1.1)) (An @hright @Zv) ?_
   refine Cc ?_ ?_<;>intro hc<;>(try simp only[Za,ne_eq]at hc)
   ·have e:pndW acc sym o=sideW o.buy (o.qty - o.done):=by unfold pndW;rw[if_pos (hit_t.2 hc)]
    rw[e]at hs
    have hb1:=Zn (o.qty - o.done) (by omega) (by omega)
    have hb2:=hs
    have hplus:=plus_c (sumW ((l.take i).map (pndW acc sym))) (sideW o.buy (o.qty - o.done)) hok (okW_side _ _ (by omega))
    refine Wk (An @hb1 (An @hb2 (An @ho (An @hs qEX1.1)))) (An @hright (An @hplus @Zv)) ?_
    refine Zb (i+1) (show i+1≤l.length by omega) (by omega) (by refine Le.of (τ:=[]) (ν:=[]) (by kernel_rfl) ?_ ?_<;>((refine Lv (An @hb1 (An @hb2 (An @ho (An @hs qEX1.1)))) fun eE=>?_;first|exact Lw (@Box.out _ eE) trivial|refine Lw (@Box.out _ eE) ?_);try (first|omega|rfl)))
   ·have e:pndW acc sym o=(0,0):=by unfold pndW;rw[if_neg (fun h=>hc.elim (fun n=>n (hit_t.1 h).1) (fun n=>n (hit_t.1 h).2))]
    rw[e,addW_0]at hs
    have hb2:=hs
    refine Wk (An @hb2 (An @ho (An @hs qEX1.1))) (An @hright @Zv) ?_
    refine Zb (i+1) (show i+1≤l.length by omega) (by omega) (by refine Le.of (τ:=[]) (ν:=[]) (by kernel_rfl) ?_ ?_<;>((refine Lv (An @hb2 (An @ho (An @hs qEX1.1))) fun eE=>?_;first|exact Lw (@Box.out _ eE) trivial|refine Lw (@Box.out _ eE) ?_);try (first|omega|rfl)))
  ·have e:i=l.length:=by omega
   subst e
   refine Wk qEX1.1 (An @hright @Zv) ?_
   first|exact Fn @Tryz.results114 qEX1.1 trivial|refine Fn @Tryz.results114 qEX1.1 ?_
   exact ⟨rfl,rfl⟩
def smW (m:Int) (w:Int×Int):Prop:=-m≤w.1∧w.1≤m∧-m≤w.2∧w.2≤m
theorem sumW_sm {α:Type} (f:α→Int×Int) (l:List α) (n:Nat) (hl:l.length≤300) (h:∀x,x∈l→smW 4000000000000 (f x)):smW 1200000000000000 (sumW ((l.take n).map f)):=by
 have h1:=sumW_le 4000000000000 ((l.take n).map f) fun x hx=>by
  obtain ⟨y,hy,rfl⟩:=List.mem_map.1 hx
  exact h y (List.mem_of_mem_take hy)
 rw[List.length_map,List.length_take]at h1
 have:min n l.length*4000000000000≤300*4000000000000:=Nat.mul_le_mul (by omega) (Nat.le_refl _)
 unfold smW
 omega
theorem sm_ok {m:Int} {w:Int×Int} (h:smW m w) (hm:m≤4000000000000000000):okW w:=by unfold smW at h;unfold okW;omega
theorem sm_side (b:Bool) (q:Int) (h:-1100000000000≤q∧q≤1100000000000):smW 1100000000000 (sideW b q):=by
 unfold smW sideW
 split<;>(dsimp only;omega)
theorem sm_add {m n:Int} {a b:Int×Int} (ha:smW m a) (hb:smW n b):smW (m+n) (addW a b):=by
 unfold smW at ha hb ⊢;unfold addW;dsimp only;omega
theorem sm_le {m n:Int} {a:Int×Int} (ha:smW m a) (h:m≤n):smW n a:=by unfold smW at ha ⊢;omega
theorem amt_rng {n:Int} (h:NO.amountB n=true):0≤n∧n≤1099511627776:=NO.amountB_spec.1 h
theorem fil_sm {b:Bk} {a s:ByteArray} {f:Fil} (h:NO.amountB f.qty=true):smW 4000000000000 (filW b a s f):=by
 have:=amt_rng h
 unfold filW
 split
 ·split
  ·exact sm_le (sm_add (sm_side f.buy f.qty (by omega)) (sm_side (!f.buy) (-f.qty) (by omega))) (by decide)
  ·exact sm_le (sm_side f.buy f.qty (by omega)) (by decide)
 ·unfold smW;dsimp only;omega
theorem ord_sm {a s:ByteArray} {o:Ord}:smW 4000000000000 (ordW a s o):=by
 have:=NO.leftI_le o
 unfold ordW
 split
 ·exact sm_le (sm_side o.buy _ (by omega)) (by decide)
 ·unfold smW;dsimp only;omega
theorem of_c (b:Bk) (acc sym:ByteArray) (h:bkP b):ACall Tryz.prog 25 [] [bkD b,StD acc,StD sym] (wD (ofW b acc sym)) []:=by
 have hright:=bkRight_c b h
 have hfl:=h.fl
 have hol:=(NO.Zy.1 h.ords).1
 refine Ac Tryz.func25 ?_
 refine Wk qEX1.1 (An @hright @Zv) ?_
 refine Cc ?_ ?_<;>intro hc<;>(try simp only[Za,ne_eq]at hc)
 ·contradiction
 ·refine Wk qEX1.1 (An @hright @Zv) ?_
  refine AWp.loop (fun i:Nat=>mkSt [(1,StD acc),(2,StD sym),(3,.p 0 0),(6,.p 1 0),(7,.p 2 0),(17,fsD b.fills),(18,I b.fills.length),(19,I i)] [(0,.loc (bkC b)),(1,.loc (wC (0,0))),(2,.loc (wC (sumW ((b.fills.take i).map (filW b acc sym)))))] 3)
   (fun i=>i≤b.fills.length) (fun i=>b.fills.length - i) 0 (Nat.zero_le _) (by refine Le.of (τ:=[(1,64),(2,320)]) (ν:=[]) (by kernel_rfl) ?_ ?_<;>((first|exact Lw qEX1.1 trivial|refine Lw qEX1.1 ?_);try (first|omega|rfl|exact ⟨rfl,rfl⟩))) fun i hi=>?_
  refine Wk qEX1.1 (An @hright @Zv) ?_
  refine Cc ?_ ?_<;>intro hc<;>(try simp only[Za,ne_eq]at hc)
  ·have hil:i<b.fills.length:=by omega
   obtain ⟨hq,hp,ht0,ht1,hm⟩:=h.fills _ (getD_memF hil)
   have hqr:=amt_rng hq
   have hz:=sumW_take (filW b acc sym) b.fills i hil
   have hsm:=sumW_sm (filW b acc sym) b.fills i (by omega) fun f hf=>fil_sm (h.fills f hf).1
   generalize hof:b.fills.getD i default=f at hq hp ht0 ht1 hm hqr hz
   have hfin:=final_c b f h.clock ⟨ht0,ht1⟩ _ rfl
   generalize hS:sumW ((b.fills.take i).map (filW b acc sym))=S at hz hsm
   refine Wk (An @hof (An @hS qEX1.1)) (An @hright (An @hfin @Zv)) ?_
   refine Cc ?_ ?_<;>intro hc<;>(try simp only[Za,ne_eq]at hc)
   ·have e:filW b acc sym f=(0,0):=by
     unfold filW
     rw[if_neg]
     rw[Bool.and_eq_true,hit_t]
     rintro ⟨h1,h2,h3⟩
     rcases hc with (hc|hc)|hc
     ·simp[h1]at hc
     ·exact hc h2
     ·exact hc h3
    have hs:=hz
    rw[e,addW_0]at hs
    refine Wk (An @hof (An @hS (An @hs qEX1.1))) (An @hright (An @hfin @Zv)) ?_
    refine Zb (i+1) (show i+1≤b.fills.length by omega) (by omega) (by refine Le.of (τ:=[]) (ν:=[]) (by kernel_rfl) ?_ ?_<;>((refine Lv (An @hof (An @hS (An @hs qEX1.1))) fun eE=>?_;first|exact Lw (@Box.out _ eE) trivial|refine Lw (@Box.out _ eE) ?_);try (first|omega|rfl)))
   ·have hplus:=plus_c S (sideW f.buy f.qty) (sm_ok hsm (by decide)) (sm_ok (sm_side f.buy f.qty (by omega)) (by decide))
    have hh:(f.lv && hitW acc sym f.acc f.sym)=true:=by
     rw[Bool.and_eq_true,hit_t]
     exact ⟨by simpa using hc.1.1,by simpa using hc.1.2,by simpa using hc.2⟩
    refine Wk (An @hof (An @hS qEX1.1)) (An @hright (An @hplus (An @hfin @Zv))) ?_
    refine Cc ?_ ?_<;>intro hc<;>(try simp only[Za,ne_eq]at hc)
    ·have hb1:=Int.zero_sub f.qty
     have hplus2:=plus_c (addW S (sideW f.buy f.qty)) (sideW (!f.buy) (-f.qty)) (sm_ok (sm_add hsm (sm_side f.buy f.qty (by omega))) (by decide)) (sm_ok (sm_side (!f.buy) (-f.qty) (by omega)) (by decide))
     have e:filW b acc sym f=addW (sideW f.buy f.qty) (sideW (!f.buy) (-f.qty)):=by unfold filW;rw[if_pos hh,if_pos hc]
     have hb2:sumW ((b.fills.take (i+1)).map (filW b acc sym))=addW (addW S (sideW f.buy f.qty)) (sideW (!f.buy) (-f.qty)):=by rw[hz,e];simp only[addW,Prod.mk.injEq];omega
     refine Wk (An @hb1 (An @hb2 (An @hof (An @hS qEX1.1)))) (An @hright (An @hplus (An @hplus2 (An @hfin @Zv)))) ?_
     refine Zb (i+1) (show i+1≤b.fills.length by omega) (by omega) (by refine Le.of (τ:=[]) (ν:=[]) (by kernel_rfl) ?_ ?_<;>((refine Lv (An @hb1 (An @hb2 (An @hof (An @hS qEX1.1)))) fun eE=>?_;first|exact Lw (@Box.out _ eE) trivial|refine Lw (@Box.out _ eE) ?_);try (first|omega|rfl)))
    ·have e:filW b acc sym f=sideW f.buy f.qty:=by unfold filW;rw[if_pos hh,if_neg (by rw[hc];decide)]
     have hb2:sumW ((b.fills.take (i+1)).map (filW b acc sym))=addW S (sideW f.buy f.qty):=by rw[hz,e]
     refine Wk (An @hb2 (An @hof (An @hS qEX1.1))) (An @hright (An @hplus (An @hfin @Zv))) ?_
     refine Zb (i+1) (show i+1≤b.fills.length by omega) (by omega) (by refine Le.of (τ:=[]) (ν:=[]) (by kernel_rfl) ?_ ?_<;>((refine Lv (An @hb2 (An @hof (An @hS qEX1.1))) fun eE=>?_;first|exact Lw (@Box.out _ eE) trivial|refine Lw (@Box.out _ eE) ?_);try (first|omega|rfl)))
  ·have e:i=b.fills.length:=by omega
   subst e
   have hsm:=sumW_sm (filW b acc sym) b.fills b.fills.length (by omega) fun f hf=>fil_sm (h.fills f hf).1
   rw[List.take_length]at hsm
   generalize hS:sumW (b.fills.map (filW b acc sym))=S at hsm
   refine Wk (An @hS qEX1.1) (An @hright @Zv) ?_
   refine AWp.loop (fun i:Nat=>mkSt [(1,StD acc),(2,StD sym),(6,.p 0 0),(7,.p 1 0),(59,NO.osD b.ords),(60,I b.ords.length),(61,I i)] [(0,.loc (wC (0,0))),(1,.loc (wC (addW S (sumW ((b.ords.take i).map (ordW acc sym))))))] 2)
    (fun i=>i≤b.ords.length) (fun i=>b.ords.length - i) 0 (Nat.zero_le _) (by refine Le.of (τ:=[(0,1),(1,2)]) (ν:=[]) (by kernel_rfl) ?_ ?_<;>((refine Lv (An @hS qEX1.1) fun eE=>?_;first|exact Lw (@Box.out _ eE) trivial|refine Lw (@Box.out _ eE) ?_);try (first|omega|rfl|exact ⟨by simp[addW,sumW],by simp[addW,sumW]⟩))) fun i hi=>?_
   refine Wk (An @hS qEX1.1) (An @hright @Zv) ?_
   refine Cc ?_ ?_<;>intro hc<;>(try simp only[Za,ne_eq]at hc)
   ·have hil:i<b.ords.length:=by omega
    have hz:=sumW_take (ordW acc sym) b.ords i hil
    have hsm2:=sumW_sm (ordW acc sym) b.ords i (by omega) fun o _=>ord_sm
    generalize ho:b.ords.getD i default=o at hz
    have hlr:=NO.leftI_le o
    have hleft:=NO.Zs o
    generalize hS2:sumW ((b.ords.take i).map (ordW acc sym))=S2 at hz hsm2
    refine Wk (An @ho (An @hS (An @hS2 qEX1.1))) (An @hright (An @hleft @Zv)) ?_
    refine Cc ?_ ?_<;>intro hc<;>(try simp only[Za,ne_eq]at hc)
    ·have hplus:=plus_c (addW S S2) (sideW o.buy (NO.leftI o)) (sm_ok (sm_add hsm hsm2) (by decide)) (sm_ok (sm_side o.buy (NO.leftI o) (by omega)) (by decide))
     have e:ordW acc sym o=sideW o.buy (NO.leftI o):=by unfold ordW;rw[if_pos (hit_t.2 hc)]
     have hb2:addW S (sumW ((b.ords.take (i+1)).map (ordW acc sym)))=addW (addW S S2) (sideW o.buy (NO.leftI o)):=by rw[hz,e];simp only[addW,Prod.mk.injEq];omega
     refine Wk (An @hb2 (An @ho (An @hS (An @hS2 qEX1.1)))) (An @hright (An @hplus (An @hleft @Zv))) ?_
     refine Zb (i+1) (show i+1≤b.ords.length by omega) (by omega) (by refine Le.of (τ:=[]) (ν:=[]) (by kernel_rfl) ?_ ?_<;>((refine Lv (An @hb2 (An @ho (An @hS (An @hS2 qEX1.1)))) fun eE=>?_;first|exact Lw (@Box.out _ eE) trivial|refine Lw (@Box.out _ eE) ?_);try (first|omega|rfl)))
    ·have e:ordW acc sym o=(0,0):=by unfold ordW;rw[if_neg (fun h=>hc.elim (fun n=>n (hit_t.1 h).1) (fun n=>n (hit_t.1 h).2))]
     have hs:=hz
     rw[e,addW_0]at hs
     refine Wk (An @ho (An @hS (An @hS2 (An @hs qEX1.1)))) (An @hright (An @hleft @Zv)) ?_
     refine Zb (i+1) (show i+1≤b.ords.length by omega) (by omega) (by refine Le.of (τ:=[]) (ν:=[]) (by kernel_rfl) ?_ ?_<;>((refine Lv (An @ho (An @hS (An @hS2 (An @hs qEX1.1)))) fun eE=>?_;first|exact Lw (@Box.out _ eE) trivial|refine Lw (@Box.out _ eE) ?_);try (first|omega|rfl)))
   ·have e:i=b.ords.length:=by omega
    subst e
    have hb3:addW S (sumW (b.ords.map (ordW acc sym)))=ofW b acc sym:=by rw[←hS];rfl
    refine Wk (An @hb3 (An @hS qEX1.1)) (An @hright @Zv) ?_
    first|exact Fn @Tryz.results25 (An @hb3 (An @hS qEX1.1)) trivial|refine Fn @Tryz.results25 (An @hb3 (An @hS qEX1.1)) ?_
namespace NA
structure Lim where
 acc:ByteArray
 sym:ByteArray
 long:Int
 short:Int
 qty:Int
 value:Int
instance :Inhabited Lim:=⟨⟨⟨#[]⟩,⟨#[]⟩,0,0,0,0⟩⟩
abbrev lC (x:Lim):List C:=[.v (.x (.string x.acc)),.v (.x (.string x.sym)),.v (vI x.long),.v (vI x.short),.v (vI x.qty),.v (vI x.value)]
abbrev lD (x:Lim):D:=.e (.a (lC x))
abbrev lV (x:Lim):List V:=[V.x (.string x.acc),V.x (.string x.sym),V.x (.int .i64 x.long),V.x (.int .i64 x.short),V.x (.int .i64 x.qty),V.x (.int .i64 x.value)]
abbrev lR (l:List Lim):List (List V):=l.map fun x=>[V.x (.string x.acc),V.x (.string x.sym),V.x (.int .i64 x.long),V.x (.int .i64 x.short),V.x (.int .i64 x.qty),V.x (.int .i64 x.value)]
abbrev lsD (l:List Lim):D:=.e (.c (.v (.s 6 (lR l))))
theorem Zc (l:List Lim) (i:Nat):(l.map fun x=>[V.x (.string x.acc),V.x (.string x.sym),V.x (.int .i64 x.long),V.x (.int .i64 x.short),V.x (.int .i64 x.qty),V.x (.int .i64 x.value)]).getD i [V.x (.string ⟨#[]⟩),V.x (.string ⟨#[]⟩),V.x (.int .i64 0),V.x (.int .i64 0),V.x (.int .i64 0),V.x (.int .i64 0)] =
 [V.x (.string (l.getD i default).acc),V.x (.string (l.getD i default).sym),V.x (.int .i64 (l.getD i default).long),V.x (.int .i64 (l.getD i default).short),V.x (.int .i64 (l.getD i default).qty),V.x (.int .i64 (l.getD i default).value)]:=by
 simp only[List.getD_eq_getElem?_getD,List.getElem?_map]
 cases l[i]?<;>rfl
def namedB (s:ByteArray):Bool:=!(s.data.toList == (⟨#[]⟩:ByteArray).data.toList) && decide ((s.size:Int)≤16)
def amountB (n:Int):Bool:=decide (0≤n) && decide (n≤1099511627776)
def mayL (x:Lim):Bool:=namedB x.acc && namedB x.sym && amountB x.long && amountB x.short && amountB x.qty && amountB x.value
def qAM11:=PLift.up (An @Zc @Z0)
theorem named_c (s:ByteArray):ACall Tryz.prog 175 [] [SD s] (B (namedB s)) []:=by
 have hcl:True:=trivial
 refine Ac Tryz.func175 ?_
 refine Wk (An @hcl qAM11.1) (An @isNaN_c @cmpS_c) ?_
 first|exact Fn @Tryz.results175 (An @hcl qAM11.1) trivial|refine Fn @Tryz.results175 (An @hcl qAM11.1) ?_
 rfl
theorem amount_c (n:Int):ACall Tryz.prog 176 [] [I n] (B (amountB n)) []:=by
 have hcl:True:=trivial
 refine Ac Tryz.func176 ?_
 refine Wk (An @hcl qAM11.1) (An @named_c (An @isNaN_c @cmpS_c)) ?_
 first|exact Fn @Tryz.results176 (An @hcl qAM11.1) trivial|refine Fn @Tryz.results176 (An @hcl qAM11.1) ?_
 rfl
def qAM12:=PLift.up (An @named_c (An @amount_c (An @isNaN_c @cmpS_c)))
theorem Zk (x:Lim):ACall Tryz.prog 115 [] [lD x] (B (mayL x)) []:=by
 have hcl:True:=trivial
 refine Ac Tryz.func115 ?_
 refine Wk (An @hcl qAM11.1) qAM12.1 ?_
 first|exact Fn @Tryz.results115 (An @hcl qAM11.1) trivial|refine Fn @Tryz.results115 (An @hcl qAM11.1) ?_
 rfl
def cmpL (a b:Lim):Int:=if cmpS a.acc b.acc≠0 then cmpS a.acc b.acc else cmpS a.sym b.sym
theorem Zl (a b:Lim):ACall Tryz.prog 117 [] [lD a,lD b] (I (cmpL a b)) []:=by
 have hcl:True:=trivial
 refine Ac Tryz.func117 ?_
 refine Wk (An @hcl qAM11.1) (An (fun u1 u2 u3 u4 u5 u6=>Zk ⟨u1,u2,u3,u4,u5,u6⟩) qAM12.1) ?_
 refine Cc ?_ ?_<;>intro hc<;>(try simp only[Za,ne_eq]at hc)
 ·refine Wk (An @hcl qAM11.1) (An (fun u1 u2 u3 u4 u5 u6=>Zk ⟨u1,u2,u3,u4,u5,u6⟩) qAM12.1) ?_
  first|exact Fn @Tryz.results117 (An @hcl qAM11.1) trivial|refine Fn @Tryz.results117 (An @hcl qAM11.1) ?_
  rw[cmpL,if_pos hc]
 ·refine Wk (An @hcl qAM11.1) (An (fun u1 u2 u3 u4 u5 u6=>Zk ⟨u1,u2,u3,u4,u5,u6⟩) qAM12.1) ?_
  first|exact Fn @Tryz.results117 (An @hcl qAM11.1) trivial|refine Fn @Tryz.results117 (An @hcl qAM11.1) ?_
  rw[cmpL,if_neg (fun h=>h hc)]
end NA
namespace NA
def sameN (a b:Lim):Prop:=a.acc=b.acc∧a.sym=b.sym
theorem cmpL_eq {a b:Lim}:cmpL a b=0↔sameN a b:=by
 unfold cmpL sameN
 by_cases h:cmpS a.acc b.acc=0
 ·rw[if_neg (fun x=>x h),Z6,←Z6 (a:=a.acc)];exact ⟨fun x=>⟨h,x⟩,fun x=>x.2⟩
 ·rw[if_pos h];exact ⟨fun x=>absurd x h,fun x=>absurd (Z6.2 x.1) h⟩
theorem cmpL_swap (a b:Lim):cmpL b a=- cmpL a b:=by
 unfold cmpL
 rcases cmpS_cases a.acc b.acc with ⟨h1,h2⟩|⟨h1,h2⟩|⟨h1,h2⟩
 ·rw[if_pos (by omega),if_pos (by omega)];omega
 ·have h3:cmpS b.acc a.acc=0:=Z6.2 h2.symm
  rw[if_neg (by omega),if_neg (by omega)]
  rcases cmpS_cases a.sym b.sym with ⟨h1,h2⟩|⟨h1,h2⟩|⟨h1,h2⟩
  ·omega
  ·have:=Z6.2 h2.symm;omega
  ·omega
 ·rw[if_pos (by omega),if_pos (by omega)];omega
theorem cmpL_trans {a b c:Lim} (h1:cmpL a b<0) (h2:cmpL b c<0):cmpL a c<0:=by
 have tr:∀ {x y z:ByteArray},cmpS x y<0→cmpS y z<0→cmpS x z<0:=fun h1 h2=>cmpS_lt.2 (bl_trans _ _ _ (cmpS_lt.1 h1) (cmpS_lt.1 h2))
 unfold cmpL at *
 by_cases e1:cmpS a.acc b.acc=0
 ·rw[if_neg (fun x=>x e1)]at h1
  have ha:=Z6.1 e1
  rw[ha]
  by_cases e2:cmpS b.acc c.acc=0
  ·rw[if_neg (fun x=>x e2)]at h2 ⊢
   exact tr h1 h2
  ·rw[if_pos e2]at h2 ⊢
   exact h2
 ·rw[if_pos e1]at h1
  by_cases e2:cmpS b.acc c.acc=0
  ·have hb:=Z6.1 e2
   rw[←hb,if_pos e1]
   exact h1
  ·rw[if_pos e2]at h2
   have:=tr h1 h2
   rw[if_pos (by omega)]
   exact this
end NA
end Eng
end Go.Proofs.YtgenjpingdkmgaaGreatDoor
