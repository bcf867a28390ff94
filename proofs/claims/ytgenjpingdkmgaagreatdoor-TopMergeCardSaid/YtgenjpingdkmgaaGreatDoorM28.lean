/- Contracts of functions that this seat's law calls. No condition. -/
import Derived.Test.YtgenjpingdkmgaaGreatDoorM27
set_option maxRecDepth 100000
set_option linter.unusedSimpArgs false
set_option linter.unusedVariables false
namespace Go.Proofs.YtgenjpingdkmgaaGreatDoor
namespace Eng
section
open NU
theorem evO_g1 (En:Nat→D):evO En (.global 1)=.q [vS (str (asksL.getD 0 [])),vS (str (asksL.getD 1 [])),vS (str (asksL.getD 2 [])),vS (str (asksL.getD 3 [])),vS (str (asksL.getD 4 [])),vS (str (asksL.getD 5 [])),vS (str (asksL.getD 6 [])),vS (str (asksL.getD 7 [])),vS (str (asksL.getD 8 []))]:=rfl
theorem evO_g2 (En:Nat→D):evO En (.global 2)=.q [vS (str (execsL.getD 0 [])),vS (str (execsL.getD 1 [])),vS (str (execsL.getD 2 [])),vS (str (execsL.getD 3 [])),vS (str (execsL.getD 4 [])),vS (str (execsL.getD 5 [])),vS (str (execsL.getD 6 [])),vS (str (execsL.getD 7 [])),vS (str (execsL.getD 8 []))]:=rfl
def wAt (ws:List (List UInt8)) (j:Int):ByteArray:=str (ws.getD j.toNat [])
def nAt (ws:List (List UInt8)) (j:Int):Int:=numW (ws.getD j.toNat [])
theorem wAt_c (ws:List (List UInt8)) (hl:ws.length≤1000) (j:Int) (hj:0≤j):ACall Tryz.prog 305 [] [I j,.q [ssV (ws.map str)]] (StD (wAt ws j)) []:=by
 obtain ⟨i,rfl⟩:=Int.eq_ofNat_of_zero_le hj
 refine wordAt_c (ws.map str) i (by rw[List.length_map];omega) _ ?_
 unfold wAt
 rw[Int.toNat_natCast,List.getD_eq_getElem?_getD,List.getD_eq_getElem?_getD,List.getElem?_map]
 cases ws[i]?<;>rfl
theorem nAt_c (ws:List (List UInt8)) (h:∀w,w∈ws→w.length≤1000) (j:Int):ACall Tryz.prog 306 [] [StD (wAt ws j)] (I (nAt ws j)) []:=by
 refine numw_c _ ?_ _ rfl
 rw[List.getD_eq_getElem?_getD]
 cases hw:ws[j.toNat]? with
 | none=>exact Nat.zero_le _
 | some w=>exact h w (List.mem_of_getElem? hw)
def buyS:List UInt8:=[98,117,121]
def zLim:NA.Lim:=⟨⟨#[]⟩,⟨#[]⟩,0,0,0,0⟩
def zExe:Exe:=⟨⟨#[]⟩,⟨#[]⟩,⟨#[]⟩,⟨#[]⟩,⟨#[]⟩,0,false,0,0,0⟩
def zOrd:Ord:=⟨⟨#[]⟩,⟨#[]⟩,⟨#[]⟩,false,0,0,0,false⟩
def asked1 (ws:List (List UInt8)):Ask:=⟨1,nAt ws 1,⟨wAt ws 2,wAt ws 3,wAt ws 4,((wAt ws 5).data.toList == buyS),nAt ws 6,nAt ws 7,0,false⟩,⟨#[]⟩,zExe,0,false,zLim⟩
def qTB1:=PLift.up (An @evO_g1 @evO_g2)
theorem asked1_c (ws:List (List UInt8)) (hl:ws.length≤1000) (h:∀w,w∈ws→w.length≤1000):ACall Tryz.prog 277 [] [I 1,ssD (ws.map str)] (aD (asked1 ws)) []:=by
 have hw:=wAt_c ws hl
 have hn:=nAt_c ws h
 refine Ac Tryz.func277 ?_
 refine Wk qTB1.1 (An @hw @hn) ?_
 refine Cc ?_ ?_<;>intro hc<;>(try simp only[Za,ne_eq]at hc)
 ·refine Wk qTB1.1 (An @hw @hn) ?_
  refine Cc ?_ ?_<;>intro hc<;>(try simp only[Za,ne_eq]at hc)
  ·refine Wk qTB1.1 (An @hw @hn) ?_
   refine Cc ?_ ?_<;>intro hc<;>(try simp only[Za,ne_eq]at hc)
   ·refine Wk qTB1.1 (An @hw @hn) ?_
    first|exact Fn @Tryz.results277 qTB1.1 trivial|refine Fn @Tryz.results277 qTB1.1 ?_
    exact ⟨rfl,rfl,rfl,rfl,rfl,rfl,rfl,rfl,rfl,rfl,rfl,rfl,rfl,rfl,rfl,rfl,rfl,rfl,rfl,rfl,rfl,rfl,rfl,rfl,rfl,rfl,rfl,rfl,rfl⟩
   ·contradiction
  ·contradiction
 ·contradiction
def asked8 (ws:List (List UInt8)):Ask:=⟨8,0,zOrd,⟨#[]⟩,zExe,0,false,⟨wAt ws 1,wAt ws 2,nAt ws 3,nAt ws 4,nAt ws 5,nAt ws 6⟩⟩
theorem asked8_c (ws:List (List UInt8)) (hl:ws.length≤1000) (h:∀w,w∈ws→w.length≤1000):ACall Tryz.prog 277 [] [I 8,ssD (ws.map str)] (aD (asked8 ws)) []:=by
 have hw:=wAt_c ws hl
 have hn:=nAt_c ws h
 refine Ac Tryz.func277 ?_
 refine Wk qTB1.1 (An @hw @hn) ?_
 refine Cc ?_ ?_<;>intro hc<;>(try simp only[Za,ne_eq]at hc)
 ·contradiction
 ·refine Wk qTB1.1 (An @hw @hn) ?_
  refine Cc ?_ ?_<;>intro hc<;>(try simp only[Za,ne_eq]at hc)
  ·contradiction
  ·refine Wk qTB1.1 (An @hw @hn) ?_
   refine Cc ?_ ?_<;>intro hc<;>(try simp only[Za,ne_eq]at hc)
   ·contradiction
   ·refine Wk qTB1.1 (An @hw @hn) ?_
    refine Cc ?_ ?_<;>intro hc<;>(try simp only[Za,ne_eq]at hc)
    ·contradiction
    ·refine Wk qTB1.1 (An @hw @hn) ?_
     refine Cc ?_ ?_<;>intro hc<;>(try simp only[Za,ne_eq]at hc)
     ·contradiction
     ·refine Wk qTB1.1 (An @hw @hn) ?_
      refine Cc ?_ ?_<;>intro hc<;>(try simp only[Za,ne_eq]at hc)
      ·contradiction
      ·refine Wk qTB1.1 (An @hw @hn) ?_
       refine Cc ?_ ?_<;>intro hc<;>(try simp only[Za,ne_eq]at hc)
       ·contradiction
       ·refine Wk qTB1.1 (An @hw @hn) ?_
        refine Cc ?_ ?_<;>intro hc<;>(try simp only[Za,ne_eq]at hc)
        ·contradiction
        ·refine Wk qTB1.1 (An @hw @hn) ?_
         refine Cc ?_ ?_<;>intro hc<;>(try simp only[Za,ne_eq]at hc)
         ·contradiction
         ·refine Wk qTB1.1 (An @hw @hn) ?_
          refine Cc ?_ ?_<;>intro hc<;>(try simp only[Za,ne_eq]at hc)
          ·contradiction
          ·refine Wk qTB1.1 (An @hw @hn) ?_
           refine Cc ?_ ?_<;>intro hc<;>(try simp only[Za,ne_eq]at hc)
           ·contradiction
           ·refine Wk qTB1.1 (An @hw @hn) ?_
            refine Cc ?_ ?_<;>intro hc<;>(try simp only[Za,ne_eq]at hc)
            ·refine Wk qTB1.1 (An @hw @hn) ?_
             first|exact Fn @Tryz.results277 qTB1.1 trivial|refine Fn @Tryz.results277 qTB1.1 ?_
             exact ⟨rfl,rfl,rfl,rfl,rfl,rfl,rfl,rfl,rfl,rfl,rfl,rfl,rfl,rfl,rfl,rfl,rfl,rfl,rfl,rfl,rfl,rfl,rfl,rfl,rfl,rfl,rfl,rfl,rfl⟩
            ·contradiction
def asked3 (ws:List (List UInt8)) (ref:ByteArray):Ask:=⟨3,nAt ws 1,zOrd,⟨#[]⟩,⟨wAt ws 3,ref,wAt ws 5,wAt ws 6,wAt ws 7,placeL (fun i=>str (execsL.getD i [])) (wAt ws 2) 8 1,((wAt ws 8).data.toList == buyS),nAt ws 9,nAt ws 10,nAt ws 11⟩,0,false,zLim⟩
theorem asked3_c (ws:List (List UInt8)) (hl:ws.length≤1000) (h:∀w,w∈ws→w.length≤1000) (ref:ByteArray) (hr:(if (wAt ws 4).data.toList=[45] then ⟨#[]⟩ else wAt ws 4)=ref):ACall Tryz.prog 277 [] [I 3,ssD (ws.map str)] (aD (asked3 ws ref)) []:=by
 have hw:=wAt_c ws hl
 have hn:=nAt_c ws h
 have hpl:=place_c (fun i=>str (execsL.getD i [])) (wAt ws 2) _ rfl
 refine Ac Tryz.func277 ?_
 refine Wk qTB1.1 (An @hw (An @hn @hpl)) ?_
 refine Cc ?_ ?_<;>intro hc<;>(try simp only[Za,ne_eq]at hc)
 ·contradiction
 ·refine Wk qTB1.1 (An @hw (An @hn @hpl)) ?_
  refine Cc ?_ ?_<;>intro hc<;>(try simp only[Za,ne_eq]at hc)
  ·contradiction
  ·refine Wk qTB1.1 (An @hw (An @hn @hpl)) ?_
   refine Cc ?_ ?_<;>intro hc<;>(try simp only[Za,ne_eq]at hc)
   ·refine Wk qTB1.1 (An @hw (An @hn @hpl)) ?_
    refine Cc ?_ ?_<;>intro hc<;>(try simp only[Za,ne_eq]at hc)
    ·refine Wk qTB1.1 (An @hw (An @hn @hpl)) ?_
     refine Cc ?_ ?_<;>intro hc<;>(try simp only[Za,ne_eq]at hc)
     ·contradiction
     ·refine Wk qTB1.1 (An @hw (An @hn @hpl)) ?_
      refine Cc ?_ ?_<;>intro hc<;>(try simp only[Za,ne_eq]at hc)
      ·contradiction
      ·refine Wk qTB1.1 (An @hw (An @hn @hpl)) ?_
       refine Cc ?_ ?_<;>intro hc<;>(try simp only[Za,ne_eq]at hc)
       ·refine Wk qTB1.1 (An @hw (An @hn @hpl)) ?_
        refine Cc ?_ ?_<;>intro hc<;>(try simp only[Za,ne_eq]at hc)
        ·rw[if_pos hc]at hr
         subst hr
         refine Wk qTB1.1 (An @hw (An @hn @hpl)) ?_
         first|exact Fn @Tryz.results277 qTB1.1 trivial|refine Fn @Tryz.results277 qTB1.1 ?_
         exact ⟨rfl,rfl,rfl,rfl,rfl,rfl,rfl,rfl,rfl,rfl,rfl,rfl,rfl,rfl,rfl,rfl,rfl,rfl,rfl,rfl,rfl,rfl,rfl,rfl,rfl,rfl,rfl,rfl,rfl⟩
        ·rw[if_neg hc]at hr
         subst hr
         refine Wk qTB1.1 (An @hw (An @hn @hpl)) ?_
         first|exact Fn @Tryz.results277 qTB1.1 trivial|refine Fn @Tryz.results277 qTB1.1 ?_
         exact ⟨rfl,rfl,rfl,rfl,rfl,rfl,rfl,rfl,rfl,rfl,rfl,rfl,rfl,rfl,rfl,rfl,rfl,rfl,rfl,rfl,rfl,rfl,rfl,rfl,rfl,rfl,rfl,rfl,rfl⟩
       ·contradiction
    ·contradiction
   ·contradiction
end
section
open NU
def sideS (b:Bool):ByteArray:=if b then ⟨#[98,117,121]⟩ else ⟨#[115,101,108,108]⟩
def refS (s:ByteArray):ByteArray:=if (s.data.toList == [])=true then ⟨#[45]⟩ else s
noncomputable def words1 (a:Ask):List ByteArray:=[str (asksL.getD 1 []),strN a.ven,a.o.id,a.o.acc,a.o.sym,sideS a.o.buy,strN a.o.qty,strN a.o.price]
def qTW2:=PLift.up (An @NU.Zz @choose_c)
def qTW1:=PLift.up (An @evO_g1 @evO_g2)
theorem words1_c (a:Ask):ACall Tryz.prog 307 [] [aD { a with kind:=1 }] (ssD (words1 a)) []:=by
 refine Ac Tryz.func307 ?_
 refine Wk qTW1.1 qTW2.1 ?_
 refine Cc ?_ ?_<;>intro hc<;>(try simp only[Za,ne_eq]at hc)
 ·refine Wk qTW1.1 qTW2.1 ?_
  first|exact Fn @Tryz.results307 qTW1.1 trivial|refine Fn @Tryz.results307 qTW1.1 ?_
  exact ⟨rfl,by simp⟩
 ·contradiction
noncomputable def words8 (a:Ask):List ByteArray:=[str (asksL.getD 8 []),a.l.acc,a.l.sym,strN a.l.long,strN a.l.short,strN a.l.qty,strN a.l.value]
theorem words8_c (a:Ask):ACall Tryz.prog 307 [] [aD { a with kind:=8 }] (ssD (words8 a)) []:=by
 refine Ac Tryz.func307 ?_
 refine Wk qTW1.1 qTW2.1 ?_
 refine Cc ?_ ?_<;>intro hc<;>(try simp only[Za,ne_eq]at hc)
 ·contradiction
 ·refine Wk qTW1.1 qTW2.1 ?_
  refine Cc ?_ ?_<;>intro hc<;>(try simp only[Za,ne_eq]at hc)
  ·contradiction
  ·refine Wk qTW1.1 qTW2.1 ?_
   refine Cc ?_ ?_<;>intro hc<;>(try simp only[Za,ne_eq]at hc)
   ·contradiction
   ·refine Wk qTW1.1 qTW2.1 ?_
    refine Cc ?_ ?_<;>intro hc<;>(try simp only[Za,ne_eq]at hc)
    ·contradiction
    ·refine Wk qTW1.1 qTW2.1 ?_
     refine Cc ?_ ?_<;>intro hc<;>(try simp only[Za,ne_eq]at hc)
     ·contradiction
     ·refine Wk qTW1.1 qTW2.1 ?_
      refine Cc ?_ ?_<;>intro hc<;>(try simp only[Za,ne_eq]at hc)
      ·contradiction
      ·refine Wk qTW1.1 qTW2.1 ?_
       refine Cc ?_ ?_<;>intro hc<;>(try simp only[Za,ne_eq]at hc)
       ·refine Wk qTW1.1 qTW2.1 ?_
        first|exact Fn @Tryz.results307 qTW1.1 trivial|refine Fn @Tryz.results307 qTW1.1 ?_
        exact ⟨rfl,by simp⟩
       ·contradiction
noncomputable def words31 (a:Ask):List ByteArray:=[str (asksL.getD 3 []),strN a.ven,str (execsL.getD 1 []),a.x.id,refS a.x.ref,a.x.ord,a.x.acc,a.x.sym,sideS a.x.buy,strN a.x.qty,strN a.x.price,strN a.x.time]
theorem words31_c (a:Ask):ACall Tryz.prog 307 [] [aD { a with kind:=3,x:={ a.x with kind:=1 } }] (ssD (words31 a)) []:=by
 refine Ac Tryz.func307 ?_
 refine Wk qTW1.1 qTW2.1 ?_
 refine Cc ?_ ?_<;>intro hc<;>(try simp only[Za,ne_eq]at hc)
 ·contradiction
 ·refine Wk qTW1.1 qTW2.1 ?_
  refine Cc ?_ ?_<;>intro hc<;>(try simp only[Za,ne_eq]at hc)
  ·contradiction
  ·refine Wk qTW1.1 qTW2.1 ?_
   refine Cc ?_ ?_<;>intro hc<;>(try simp only[Za,ne_eq]at hc)
   ·refine Wk qTW1.1 qTW2.1 ?_
    first|exact Fn @Tryz.results307 qTW1.1 trivial|refine Fn @Tryz.results307 qTW1.1 ?_
    exact ⟨rfl,by simp⟩
   ·contradiction
noncomputable def words32 (a:Ask):List ByteArray:=[str (asksL.getD 3 []),strN a.ven,str (execsL.getD 2 []),a.x.id,refS a.x.ref,a.x.ord,a.x.acc,a.x.sym,sideS a.x.buy,strN a.x.qty,strN a.x.price,strN a.x.time]
theorem words32_c (a:Ask):ACall Tryz.prog 307 [] [aD { a with kind:=3,x:={ a.x with kind:=2 } }] (ssD (words32 a)) []:=by
 refine Ac Tryz.func307 ?_
 refine Wk qTW1.1 qTW2.1 ?_
 refine Cc ?_ ?_<;>intro hc<;>(try simp only[Za,ne_eq]at hc)
 ·contradiction
 ·refine Wk qTW1.1 qTW2.1 ?_
  refine Cc ?_ ?_<;>intro hc<;>(try simp only[Za,ne_eq]at hc)
  ·contradiction
  ·refine Wk qTW1.1 qTW2.1 ?_
   refine Cc ?_ ?_<;>intro hc<;>(try simp only[Za,ne_eq]at hc)
   ·refine Wk qTW1.1 qTW2.1 ?_
    first|exact Fn @Tryz.results307 qTW1.1 trivial|refine Fn @Tryz.results307 qTW1.1 ?_
    exact ⟨rfl,by simp⟩
   ·contradiction
def spS:ByteArray:=⟨#[32]⟩
theorem tshow_c (a:Ask) (ws:List ByteArray) (hw:ACall Tryz.prog 307 [] [aD a] (ssD ws) []) (hl:ws.length≤1000) (hs:(joinS ws spS).size≤1000000) (he:(putK a).2=0) :
 ACall Tryz.prog 278 [] [aD a] (.t [.c (.v (vS (joinS ws spS))),.c (.v (vI 0))]) []:=by
 obtain ⟨⟨bs,e⟩,hP⟩:∃y,putK a=y:=⟨_,rfl⟩
 have hput:=kput_c a _ hP
 rw[hP]at he
 dsimp only at he hput
 subst he
 have hj:=join_c ws spS hl hs
 refine Ac Tryz.func278 ?_
 refine Wk trivial (An @hput (An @hw @hj)) ?_
 refine Cc ?_ ?_<;>intro hc<;>(try simp only[Za,ne_eq]at hc)
 ·contradiction
 ·refine Wk trivial (An @hput (An @hw @hj)) ?_
  first|exact Fn @Tryz.results278 trivial trivial|refine Fn @Tryz.results278 trivial ?_
end
section
open NU
abbrev asksT (i:Nat):ByteArray:=str (asksL.getD i [])
def qTQ1:=PLift.up (An @evO_g1 (An @evO_g2 @Zh))
theorem tparse_c (l:List UInt8) (hl:l.length≤256) (ws:List (List UInt8)) (hws:splL 32 l=ws) (k:Int) (hk:placeL asksT (wAt ws 0) 8 1=k) (hk0:k≠0) (a:Ask)
 (ha:ACall Tryz.prog 277 [] [I k,ssD (ws.map str)] (aD a) []) (hsh:ACall Tryz.prog 278 [] [aD a] (.t [.c (.v (vS (str l))),.c (.v (vI 0))]) []) :
 ACall Tryz.prog 241 [] [StD (str l)] (.t [.a (aC a),.c (.v (vI 0))]) []:=by
 have hsp:=split2_c l 32 (by omega)
 rw[hws]at hsp
 have hpl:=place_c asksT (wAt ws 0) k hk
 have hlen:ws.length=l.count 32+1:=by rw[←hws,splL_len]
 have hzl:(((str l).size:Nat):Int)=l.length:=rfl
 have hw0:(ws.map str).getD 0 default=wAt ws 0:=by
  unfold wAt
  rw[List.getD_eq_getElem?_getD,List.getElem?_map,List.getD_eq_getElem?_getD]
  cases ws with
  | nil=>simp at hlen
  | cons w r=>rfl
 refine Ac Tryz.func241 ?_
 refine Wk (An @hw0 qTQ1.1) (An @hsp (An @hpl (An @ha @hsh))) ?_
 refine Cc ?_ ?_<;>intro hc<;>(try simp only[Za,ne_eq]at hc)
 ·omega
 ·refine Wk (An @hw0 qTQ1.1) (An @hsp (An @hpl (An @ha @hsh))) ?_
  refine Cc ?_ ?_<;>intro hc<;>(try simp only[Za,ne_eq]at hc)
  ·contradiction
  ·refine Wk (An @hw0 qTQ1.1) (An @hsp (An @hpl (An @ha @hsh))) ?_
   refine Cc ?_ ?_<;>intro hc<;>(try simp only[Za,ne_eq]at hc)
   ·contradiction
   ·refine Wk (An @hw0 qTQ1.1) (An @hsp (An @hpl (An @ha @hsh))) ?_
    first|exact Fn @Tryz.results241 (An @hw0 qTQ1.1) trivial|refine Fn @Tryz.results241 (An @hw0 qTQ1.1) ?_
end
section
open NU
theorem dask8_c (k:Kee) (g:Gat) (hk:keeP k) (hg:gatP g) (ws:List ByteArray) (hl:ws.length≤1000) (l:List UInt8) (hll:l.length≤1000) (hjs:joinS ws spS=str l) (a:Ask) (ha:4≤a.kind)
 (hpa:ACall Tryz.prog 241 [] [StD (str l)] (.t [.a (aC a),.c (.v (vI 0))]) []) (r:(Kee×Gat)×Int×Int) (hr:doK k g a=r) (h0:r.2.2=0) :
 ACall Tryz.prog 191 [.loc (keC k g)] [.p 0 0,ssD ws] (StD ⟨#[111,107]⟩) [.loc (keC r.1.1 r.1.2)]:=by
 have hj:=join_c ws spS hl (by rw[hjs];show l.length≤_;omega)
 rw[hjs]at hj
 have hdo:=do_c k g a hk hg r hr
 obtain ⟨⟨k1,g1⟩,n,e⟩:=r
 dsimp only at hdo h0 ⊢
 subst h0
 refine Ac Tryz.func191 ?_
 refine Wk trivial (An @hj (An @hpa @hdo)) ?_
 refine Cc ?_ ?_<;>intro hc<;>(try simp only[Za,ne_eq]at hc)
 ·contradiction
 ·refine Wk trivial (An @hj (An @hpa @hdo)) ?_
  refine Cc ?_ ?_<;>intro hc<;>(try simp only[Za,ne_eq]at hc)
  ·contradiction
  ·refine Wk trivial (An @hj (An @hpa @hdo)) ?_
   refine Cc ?_ ?_<;>intro hc<;>(try simp only[Za,ne_eq]at hc)
   ·omega
   ·refine Wk trivial (An @hj (An @hpa @hdo)) ?_
    refine Cc ?_ ?_<;>intro hc<;>(try simp only[Za,ne_eq]at hc)
    ·omega
    ·refine Wk trivial (An @hj (An @hpa @hdo)) ?_
     refine Cc ?_ ?_<;>intro hc<;>(try simp only[Za,ne_eq]at hc)
     ·omega
     ·refine Wk trivial (An @hj (An @hpa @hdo)) ?_
      refine Fs @Tryz.results191 ?_
      refine ⟨[0],[],[],by kernel_rfl,?_,?_⟩<;>((first|exact Lw trivial trivial|refine Lw trivial ?_);try (first|omega|rfl))
theorem dask1_c (k:Kee) (g:Gat) (hk:keeP k) (hg:gatP g) (ws:List ByteArray) (hl:ws.length≤1000) (l:List UInt8) (hll:l.length≤1000) (hjs:joinS ws spS=str l) (a:Ask) (ha:a.kind=1)
 (hpa:ACall Tryz.prog 241 [] [StD (str l)] (.t [.a (aC a),.c (.v (vI 0))]) []) (r:(Kee×Gat)×Int×Int) (hr:doK k g a=r) (h0:r.2.2=0) (hn:r.2.1=0) :
 ACall Tryz.prog 191 [.loc (keC k g)] [.p 0 0,ssD ws] (StD ⟨#[108,101,116]⟩) [.loc (keC r.1.1 r.1.2)]:=by
 have hj:=join_c ws spS hl (by rw[hjs];show l.length≤_;omega)
 rw[hjs]at hj
 have hdo:=do_c k g a hk hg r hr
 obtain ⟨⟨k1,g1⟩,n,e⟩:=r
 dsimp only at hdo h0 hn ⊢
 subst h0
 subst hn
 refine Ac Tryz.func191 ?_
 refine Wk trivial (An @hj (An @hpa @hdo)) ?_
 refine Cc ?_ ?_<;>intro hc<;>(try simp only[Za,ne_eq]at hc)
 ·contradiction
 ·refine Wk trivial (An @hj (An @hpa @hdo)) ?_
  refine Cc ?_ ?_<;>intro hc<;>(try simp only[Za,ne_eq]at hc)
  ·contradiction
  ·refine Wk trivial (An @hj (An @hpa @hdo)) ?_
   refine Cc ?_ ?_<;>intro hc<;>(try simp only[Za,ne_eq]at hc)
   ·refine Wk trivial (An @hj (An @hpa @hdo)) ?_
    refine Cc ?_ ?_<;>intro hc<;>(try simp only[Za,ne_eq]at hc)
    ·refine Wk trivial (An @hj (An @hpa @hdo)) ?_
     refine Cc ?_ ?_<;>intro hc<;>(try simp only[Za,ne_eq]at hc)
     ·refine Wk trivial (An @hj (An @hpa @hdo)) ?_
      refine Fs @Tryz.results191 ?_
      refine ⟨[0],[],[],by kernel_rfl,?_,?_⟩<;>((first|exact Lw trivial trivial|refine Lw trivial ?_);try (first|omega|rfl))
     ·contradiction
    ·contradiction
   ·omega
theorem dask3_c (k:Kee) (g:Gat) (hk:keeP k) (hg:gatP g) (ws:List ByteArray) (hl:ws.length≤1000) (l:List UInt8) (hll:l.length≤1000) (hjs:joinS ws spS=str l) (a:Ask) (ha:a.kind=3)
 (hpa:ACall Tryz.prog 241 [] [StD (str l)] (.t [.a (aC a),.c (.v (vI 0))]) []) (r:(Kee×Gat)×Int×Int) (hr:doK k g a=r) (h0:r.2.2=0) (i:Nat) (hi:i<100) (hn:r.2.1=i) :
 ACall Tryz.prog 191 [.loc (keC k g)] [.p 0 0,ssD ws] (StD ⟨(Lib.decDigits i).toArray⟩) [.loc (keC r.1.1 r.1.2)]:=by
 have hj:=join_c ws spS hl (by rw[hjs];show l.length≤_;omega)
 rw[hjs]at hj
 have hdo:=do_c k g a hk hg r hr
 obtain ⟨⟨k1,g1⟩,n,e⟩:=r
 dsimp only at hdo h0 hn ⊢
 subst h0
 subst hn
 have hit:=itoa_c i hi
 refine Ac Tryz.func191 ?_
 refine Wk trivial (An @hj (An @hpa (An @hdo @hit))) ?_
 refine Cc ?_ ?_<;>intro hc<;>(try simp only[Za,ne_eq]at hc)
 ·contradiction
 ·refine Wk trivial (An @hj (An @hpa (An @hdo @hit))) ?_
  refine Cc ?_ ?_<;>intro hc<;>(try simp only[Za,ne_eq]at hc)
  ·contradiction
  ·refine Wk trivial (An @hj (An @hpa (An @hdo @hit))) ?_
   refine Cc ?_ ?_<;>intro hc<;>(try simp only[Za,ne_eq]at hc)
   ·omega
   ·refine Wk trivial (An @hj (An @hpa (An @hdo @hit))) ?_
    refine Cc ?_ ?_<;>intro hc<;>(try simp only[Za,ne_eq]at hc)
    ·omega
    ·refine Wk trivial (An @hj (An @hpa (An @hdo @hit))) ?_
     refine Cc ?_ ?_<;>intro hc<;>(try simp only[Za,ne_eq]at hc)
     ·refine Wk trivial (An @hj (An @hpa (An @hdo @hit))) ?_
      refine Fs @Tryz.results191 ?_
      refine ⟨[0],[],[],by kernel_rfl,?_,?_⟩<;>((first|exact Lw trivial trivial|refine Lw trivial ?_);try (first|omega|rfl))
     ·omega
end
section
open NU
theorem evO_nilP (En:Nat→D):evO En (.const (.pointer none))=.e (.c (.v (.x (.pointer none)))):=rfl
theorem sz32:ByteArray.size ⟨#[32]⟩=1:=rfl
def qLE1:=PLift.up (An @Zh (An @evO_nilP @sz32))
theorem newDesk_c:ACall Tryz.prog 131 [] [] (.p 0 0) [.loc (keC (newE 1 100) (newG 1 100))]:=by
 have hnew:ACall Tryz.prog 7 [] [I 1,I 100] (.t [.a (keC (newE 1 100) (newG 1 100)),.c (.v (vI 0))]) []:=knew_c 1 100 (by omega) (by omega) (by unfold timeP;omega)
 refine Ac Tryz.func131 ?_
 refine Wk qLE1.1 (An @hnew @NU.Zz) ?_
 refine Fs @Tryz.results131 ?_
 refine ⟨[],[(0,640)],[],by kernel_rfl,?_,?_⟩<;>((first|exact Lw qLE1.1 trivial|refine Lw qLE1.1 ?_);try (first|omega|rfl))
theorem splL_le (c:UInt8):∀(l w:List UInt8),w∈splL c l→w.length≤l.length
 | [],w,h=>by simp[splL]at h;subst h;exact Nat.zero_le _
 | b::l,w,h=>by
  by_cases hb:b=c
  ·subst hb
   rw[splL_hit]at h
   rcases List.mem_cons.1 h with rfl|h
   ·exact Nat.zero_le _
   ·exact Nat.le_succ_of_le (splL_le b l w h)
  ·cases hs:splL c l with
   | nil=>exact absurd hs (splL_ne c l)
   | cons x r =>
    rw[splL_miss hb hs]at h
    have hin:∀y,y∈x::r→y.length≤l.length:=fun y hy=>splL_le c l y (hs ▸ hy)
    rcases List.mem_cons.1 h with rfl|h
    ·exact Nat.succ_le_succ (hin x (List.mem_cons_self ..))
    ·exact Nat.le_succ_of_le (hin w (List.mem_cons_of_mem _ h))
theorem lines_c (l:List UInt8) (hl:l.length≤2048) (hc:l.count 10<512):ACall Tryz.prog 132 [] [StD (str l)] (.t [.c (.v (ssV ((splL 10 l).map str))),.c (.v (vI 0))]) []:=by
 have hcn:ACall Tryz.prog 184 [] [StD (str l),StD (oneS 10)] (I (l.count 10)) []:=countS_c (str l) 10
 have hsp:=split2_c l 10 (by omega)
 refine Ac Tryz.func132 ?_
 refine Wk qLE1.1 (An @hcn (An @hsp @NU.Zz)) ?_
 refine Cc ?_ ?_<;>intro hc<;>(try simp only[Za,ne_eq]at hc)
 ·omega
 ·refine Wk qLE1.1 (An @hcn (An @hsp @NU.Zz)) ?_
  have hln:(splL 10 l).length=l.count 10+1:=splL_len 10 l
  refine AWp.loop (fun i:Nat=>mkSt [(4,ssD ((splL 10 l).map str)),(12,ssD ((splL 10 l).map str)),(13,I (splL 10 l).length),(14,I i)] [] 0) (fun i=>i≤(splL 10 l).length) (fun i=>(splL 10 l).length - i) 0 (Nat.zero_le _) (by refine Le.of (τ:=[]) (ν:=[]) (by kernel_rfl) ?_ ?_<;>((first|exact Lw qLE1.1 trivial|refine Lw qLE1.1 ?_);try (first|omega|rfl|(simp;done)))) fun i hi=>?_
  refine Wk qLE1.1 (An @hcn (An @hsp @NU.Zz)) ?_
  refine Cc ?_ ?_<;>intro hc<;>(try simp only[Za,ne_eq]at hc)
  ·have hil:i<((splL 10 l).map str).length:=by rw[List.length_map];omega
   refine Wk qLE1.1 (An @hcn (An @hsp @NU.Zz)) ?_
   refine Cc ?_ ?_<;>intro hc<;>(try simp only[Za,ne_eq]at hc)
   ·exfalso
    have hm:((splL 10 l).map str).getD i default∈(splL 10 l).map str:=by
     rw[List.getD_eq_getElem?_getD,List.getElem?_eq_getElem hil];exact List.getElem_mem hil
    obtain ⟨w,hw,he⟩:=List.mem_map.1 hm
    have hwl:=splL_le 10 l w hw
    rw[←he]at hc
    have:(str w).size=w.length:=rfl
    omega
   ·refine Wk qLE1.1 (An @hcn (An @hsp @NU.Zz)) ?_
    refine Zb (i+1) (by rw[List.length_map]at hil;omega) (by rw[List.length_map]at hil;omega) (by refine Le.of (τ:=[]) (ν:=[]) (by kernel_rfl) ?_ ?_<;>((first|exact Lw qLE1.1 trivial|refine Lw qLE1.1 ?_);try omega))
  ·refine Wk qLE1.1 (An @hcn (An @hsp @NU.Zz)) ?_
   first|exact Fn @Tryz.results132 qLE1.1 trivial|refine Fn @Tryz.results132 qLE1.1 ?_
theorem dworst_c (k:Kee) (g:Gat) (hg:gatP g) (x a s:ByteArray) (ha:a.data.toList≠[]) (hs:s.data.toList≠[]) (h1:(str (showL (worstG g a s).1)).size≤1000) (h2:(str (showL (worstG g a s).2)).size≤1000) :
 ACall Tryz.prog 189 [.loc (keC k g)] [.p 0 0,ssD [x,a,s]] (StD (strN (worstG g a s).1++⟨#[32]⟩++strN (worstG g a s).2)) [.loc (keC k g)]:=by
 have hgw:=gworst_c g a s hg
 have hsa:((str (showL (worstG g a s).1))++(⟨#[32]⟩:ByteArray)).size=(str (showL (worstG g a s).1)).size+1:=ByteArray.size_append
 have he1:(a.data.toList == [])=false:=by simpa using ha
 have he2:(s.data.toList == [])=false:=by simpa using hs
 refine Ac Tryz.func189 ?_
 refine Wk (An @he1 (An @he2 (An @hsa qLE1.1))) (An @hgw @NU.Zz) ?_
 refine Cc ?_ ?_<;>intro hc<;>(try simp only[Za,ne_eq]at hc)
 ·contradiction
 ·refine Wk (An @he1 (An @he2 (An @hsa qLE1.1))) (An @hgw @NU.Zz) ?_
  refine Fs @Tryz.results189 ?_
  refine ⟨[0],[],[],by kernel_rfl,?_,?_⟩<;>((refine Lv (An @he1 (An @he2 (An @hsa qLE1.1))) fun eE=>?_;first|exact Lw (@Box.out _ eE) trivial|refine Lw (@Box.out _ eE) ?_);try (first|omega|rfl))
end
section
open NU
theorem evO_fn (En:Nat→D) (f:Nat):evO En (.func f)=.e (.c (.v (.x (.func (.func f) #[] #[])))):=rfl
def deedN (s:ByteArray):Nat :=
 if s.data.toList=[118,101,110,117,101,115] then 186
 else if s.data.toList=[99,97,110,99,101,108] then 187
 else if s.data.toList=[115,116,97,110,100,115] then 188
 else if s.data.toList=[119,111,114,115,116] then 189
 else if s.data.toList=[112,111,115,105,116,105,111,110,115] then 190
 else 191
def qLF1:=PLift.up (An @evO_nilF @evO_fn)
theorem deed_c (s:ByteArray) (n:Nat) (hn:deedN s=n):ACall Tryz.prog 134 [] [StD s] (.e (.c (.v (.x (.func (.func n) #[] #[]))))) []:=by
 unfold deedN at hn
 refine Ac Tryz.func134 ?_
 refine Wk qLF1.1 trivial ?_
 refine Cc ?_ ?_<;>intro hc<;>(try simp only[Za,ne_eq]at hc)
 ·rw[if_pos hc]at hn
  subst hn
  refine Wk qLF1.1 trivial ?_
  first|exact Fn @Tryz.results134 qLF1.1 trivial|refine Fn @Tryz.results134 qLF1.1 ?_
 ·rw[if_neg hc]at hn
  refine Wk qLF1.1 trivial ?_
  refine Cc ?_ ?_<;>intro hc<;>(try simp only[Za,ne_eq]at hc)
  ·rw[if_pos hc]at hn
   subst hn
   refine Wk qLF1.1 trivial ?_
   first|exact Fn @Tryz.results134 qLF1.1 trivial|refine Fn @Tryz.results134 qLF1.1 ?_
  ·rw[if_neg hc]at hn
   refine Wk qLF1.1 trivial ?_
   refine Cc ?_ ?_<;>intro hc<;>(try simp only[Za,ne_eq]at hc)
   ·rw[if_pos hc]at hn
    subst hn
    refine Wk qLF1.1 trivial ?_
    first|exact Fn @Tryz.results134 qLF1.1 trivial|refine Fn @Tryz.results134 qLF1.1 ?_
   ·rw[if_neg hc]at hn
    refine Wk qLF1.1 trivial ?_
    refine Cc ?_ ?_<;>intro hc<;>(try simp only[Za,ne_eq]at hc)
    ·rw[if_pos hc]at hn
     subst hn
     refine Wk qLF1.1 trivial ?_
     first|exact Fn @Tryz.results134 qLF1.1 trivial|refine Fn @Tryz.results134 qLF1.1 ?_
    ·rw[if_neg hc]at hn
     refine Wk qLF1.1 trivial ?_
     refine Cc ?_ ?_<;>intro hc<;>(try simp only[Za,ne_eq]at hc)
     ·rw[if_pos hc]at hn
      subst hn
      refine Wk qLF1.1 trivial ?_
      first|exact Fn @Tryz.results134 qLF1.1 trivial|refine Fn @Tryz.results134 qLF1.1 ?_
     ·rw[if_neg hc]at hn
      subst hn
      refine Wk qLF1.1 trivial ?_
      first|exact Fn @Tryz.results134 qLF1.1 trivial|refine Fn @Tryz.results134 qLF1.1 ?_
end
section
open NU
def qLP1:=PLift.up (An @Zh @evO_fn)
theorem play_run (l:List UInt8) (hl:l.length≤2048) (hc:l.count 10<512) (ls:List (List UInt8)) (hls:splL 10 l=ls) (ke:Nat→Kee) (ga:Nat→Gat) (T:Nat→ByteArray)
 (hk0:ke 0=newE 1 100) (hg0:ga 0=newG 1 100) (hok:∀i,i<ls.length→∃b r,ls.getD i []=b::r∧b≠35)
 (hstep:∀i,i<ls.length→ACall Tryz.prog (deedN (wAt (splL 32 (ls.getD i [])) 0)) [.loc (keC (ke i) (ga i))] [.p 0 0,ssD ((splL 32 (ls.getD i [])).map str)] (StD (T i)) [.loc (keC (ke (i+1)) (ga (i+1)))]) :
 ACall Tryz.prog 80 [] [StD (str l)] (.t [.c (.v (ssV ((List.range ls.length).map T))),.a (gtC (ga ls.length)),.c (.v (vI 0))]) []:=by
 have hlin:=lines_c l hl hc
 rw[hls]at hlin
 refine Ac Tryz.func80 ?_
 refine Wk qLP1.1 (An @hlin @newDesk_c) ?_
 refine Cc ?_ ?_<;>intro hc<;>(try simp only[Za,ne_eq]at hc)
 ·contradiction
 ·refine Wk qLP1.1 (An @hlin @newDesk_c) ?_
  refine AWp.loop (fun i:Nat=>mkSt [(5,.p 0 0),(3,.p 1 0),(8,.e (.c (.o 2 i))),(26,ssD (ls.map str)),(27,I ls.length),(28,I i)]
   [(0,.loc (keC (ke i) (ga i))),(1,.loc gzC),(2,.row 1 (sR ((List.range i).map T)))] 3) (fun i=>i≤ls.length) (fun i=>ls.length - i) 0 (Nat.zero_le _)
   (by rw[hk0,hg0];refine Le.of (τ:=[(0,192),(1,64)]) (ν:=[2]) (by kernel_rfl) ?_ ?_<;>((first|exact Lw qLP1.1 trivial|refine Lw qLP1.1 ?_);try (first|omega|rfl|(simp;done)|exact ⟨rfl,rfl⟩))) fun i hi=>?_
  refine Wk qLP1.1 (An @hlin @newDesk_c) ?_
  refine Cc ?_ ?_<;>intro hc<;>(try simp only[Za,ne_eq]at hc)
  ·have hil:i<ls.length:=by omega
   obtain ⟨b,r,hbr,hb⟩:=hok i hil
   have hst:=hstep i hil
   rw[hbr]at hst
   have hmem:b::r∈splL 10 l:=by
    rw[hls,←hbr,List.getD_eq_getElem?_getD,List.getElem?_eq_getElem hil];exact List.getElem_mem hil
   have hle:=splL_le 10 l _ hmem
   have hsp:=split2_c (b::r) 32 (by omega)
   have hdeed:=deed_c (wAt (splL 32 (b::r)) 0) _ rfl
   have hge:(ls.map str).getD i default=str (b::r):=by
    rw[←hbr,List.getD_eq_getElem?_getD,List.getElem?_map,List.getD_eq_getElem?_getD,List.getElem?_eq_getElem hil];rfl
   have hgw:((splL 32 (b::r)).map str).getD 0 default=wAt (splL 32 (b::r)) 0:=by
    unfold wAt
    rw[List.getD_eq_getElem?_getD,List.getElem?_map,List.getD_eq_getElem?_getD]
    cases hx:splL 32 (b::r) with
    | nil=>exact absurd hx (splL_ne 32 _)
    | cons w t=>rfl
   have hsl:=splL_len 32 (b::r)
   have hlsl:ls.length≤512:=by rw[←hls,splL_len];omega
   have hzr:(0:Int)<((str (b::r)).size:Int):=by show (0:Int)<((r.length+1:Nat):Int);omega
   refine Wk (An @hge (An @hgw qLP1.1)) (An @hlin (An @hsp (An @hdeed (An @hst @newDesk_c)))) ?_
   refine Cc ?_ ?_<;>intro hc<;>(try simp only[Za,ne_eq]at hc)
   ·exfalso
    rcases hc with hc|hc
    ·cases hc
    ·have h35:((b.toNat:Nat):Int)=35:=hc
     exact hb (UInt8.toNat_inj.1 (by show b.toNat=35;omega))
   ·refine Wk (An @hge (An @hgw qLP1.1)) (An @hlin (An @hsp (An @hdeed (An @hst @newDesk_c)))) ?_
    have hrows:sR ((List.range (i+1)).map T)=List.take i (sR ((List.range i).map T))++[[vS (T i)]]:=by
     rw[List.take_of_length_le (by simp),List.range_succ,List.map_append];exact List.map_append
    refine Zb (i+1) (show i+1≤ls.length by omega) (by omega) (by refine Le.of (τ:=[(2,1475)]) (ν:=[]) (by kernel_rfl) ?_ ?_<;>((refine Lv (An @hge (An @hgw qLP1.1)) fun eE=>?_;first|exact Lw (@Box.out _ eE) trivial|refine Lw (@Box.out _ eE) ?_);try (first|omega|exact hrows|rfl|exact ⟨rfl,hrows⟩|(simp;done))))
  ·have e:i=ls.length:=by omega
   subst e
   refine Wk qLP1.1 (An @hlin @newDesk_c) ?_
   first|exact Fn @Tryz.results80 qLP1.1 trivial|refine Fn @Tryz.results80 qLP1.1 ?_
   exact ⟨(List.take_of_length_le (by simp)).symm,by simp⟩
theorem Play_run (s:ByteArray) (ts:List ByteArray) (g:Gat) (hp:ACall Tryz.prog 80 [] [StD s] (.t [.c (.v (ssV ts)),.a (gtC g),.c (.v (vI 0))]) []):ACall Tryz.prog 29 [] [StD s] (.t [.c (.v (ssV ts)),.c (.v (vI 0))]) []:=by
 refine Ac Tryz.func29 ?_
 refine Wk qLP1.1 @hp ?_
 first|exact Fn @Tryz.results29 qLP1.1 trivial|refine Fn @Tryz.results29 qLP1.1 ?_
end
section
open NU
def script:List UInt8:=[108,105,109,105,116,32,97,32,115,32,49,48,32,49,48,32,49,48,32,49,48,48,48,10,111,114,100,101,114,32,48,32,111,32,97,32,115,32,98,117,121,32,55,32,53,48,10,116,111,108,100,32,48,32,110,101,119,32,101,49,32,45,32,111,32,97,32,115,32,98,117,121,32,55,32,53,48,32,49,10,116,111,108,100,32,48,32,102,105,108,108,32,101,50,32,45,32,111,32,97,32,115,32,98,117,121,32,51,32,53,48,32,50,10,112,111,115,105,116,105,111,110,115,10,119,111,114,115,116,32,97,32,115]
theorem works_of (ts:List ByteArray) (hp:ACall Tryz.prog 29 [] [StD (str script)] (.t [.c (.v (ssV ts)),.c (.v (vI 0))]) []) (hl:ts.length=6)
 (h4:ts.getD 4 default=str [97,58,115,58,51,58,49,53,48]) (h5:ts.getD 5 default=str [55,32,48]):ACall Tryz.prog 6 [] [] (B true) []:=by
 obtain ⟨t0,t1,t2,t3,t4,t5,rfl⟩:∃a b c d e f,ts=[a,b,c,d,e,f]:=by
  match ts,hl with
  | [a,b,c,d,e,f],_=>exact ⟨a,b,c,d,e,f,rfl⟩
 have e4:t4=str [97,58,115,58,51,58,49,53,48]:=h4
 have e5:t5=str [55,32,48]:=h5
 subst e4 e5
 refine Ac Tryz.func6 ?_
 refine Wk trivial @hp ?_
 first|exact Fn @Tryz.results6 trivial trivial|refine Fn @Tryz.results6 trivial ?_
end
section
open NU
def lnS:List (List UInt8):=[[108,105,109,105,116,32,97,32,115,32,49,48,32,49,48,32,49,48,32,49,48,48,48],[111,114,100,101,114,32,48,32,111,32,97,32,115,32,98,117,121,32,55,32,53,48],[116,111,108,100,32,48,32,110,101,119,32,101,49,32,45,32,111,32,97,32,115,32,98,117,121,32,55,32,53,48,32,49],[116,111,108,100,32,48,32,102,105,108,108,32,101,50,32,45,32,111,32,97,32,115,32,98,117,121,32,51,32,53,48,32,50],[112,111,115,105,116,105,111,110,115],[119,111,114,115,116,32,97,32,115]]
theorem ln_script:splL 10 script=lnS:=by decide
def wd0:List (List UInt8):=[[108,105,109,105,116],[97],[115],[49,48],[49,48],[49,48],[49,48,48,48]]
theorem wd0_eq:splL 32 (lnS.getD 0 [])=wd0:=by decide
def wd1:List (List UInt8):=[[111,114,100,101,114],[48],[111],[97],[115],[98,117,121],[55],[53,48]]
theorem wd1_eq:splL 32 (lnS.getD 1 [])=wd1:=by decide
def wd2:List (List UInt8):=[[116,111,108,100],[48],[110,101,119],[101,49],[45],[111],[97],[115],[98,117,121],[55],[53,48],[49]]
theorem wd2_eq:splL 32 (lnS.getD 2 [])=wd2:=by decide
def wd3:List (List UInt8):=[[116,111,108,100],[48],[102,105,108,108],[101,50],[45],[111],[97],[115],[98,117,121],[51],[53,48],[50]]
theorem wd3_eq:splL 32 (lnS.getD 3 [])=wd3:=by decide
def wd4:List (List UInt8):=[[112,111,115,105,116,105,111,110,115]]
theorem wd4_eq:splL 32 (lnS.getD 4 [])=wd4:=by decide
def wd5:List (List UInt8):=[[119,111,114,115,116],[97],[115]]
theorem wd5_eq:splL 32 (lnS.getD 5 [])=wd5:=by decide
theorem pl8:placeL asksT (wAt wd0 0) 8 1=8:=by decide
theorem pl1:placeL asksT (wAt wd1 0) 8 1=1:=by decide
theorem pl3:placeL asksT (wAt wd2 0) 8 1=3:=by decide
theorem shw_0:showL 0=[48]:=by rw[Ye (by unfold okN;omega)];kernel_rfl
theorem shw_1:showL 1=[49]:=by rw[Ye (by unfold okN;omega)];kernel_rfl
theorem shw_2:showL 2=[50]:=by rw[Ye (by unfold okN;omega)];kernel_rfl
theorem shw_3:showL 3=[51]:=by rw[Ye (by unfold okN;omega)];kernel_rfl
theorem shw_7:showL 7=[55]:=by rw[Ye (by unfold okN;omega)];kernel_rfl
theorem shw_10:showL 10=[49,48]:=by rw[Ye (by unfold okN;omega)];kernel_rfl
theorem shw_50:showL 50=[53,48]:=by rw[Ye (by unfold okN;omega)];kernel_rfl
theorem shw_1000:showL 1000=[49,48,48,48]:=by rw[Ye (by unfold okN;omega)];kernel_rfl
theorem shw_150:showL 150=[49,53,48]:=by rw[Ye (by unfold okN;omega)];kernel_rfl
theorem shw_8:showL 8=[56]:=by rw[Ye (by unfold okN;omega)];kernel_rfl
end
section
open NU
theorem may0:mayK (asked8 wd0)=true:=by decide
theorem may1:mayK (asked1 wd1)=true:=by decide
theorem may2:mayK (asked3 wd2 ⟨#[]⟩)=true:=by decide
theorem may3:mayK (asked3 wd3 ⟨#[]⟩)=true:=by decide
theorem a0_eq:asked8 wd0=⟨8,0,zOrd,⟨#[]⟩,zExe,0,false,⟨str [97],str [115],10,10,10,1000⟩⟩:=by
 unfold asked8 nAt
 rw[show numW (wd0.getD (3:Int).toNat [])=10 by decide,show numW (wd0.getD (4:Int).toNat [])=10 by decide,show numW (wd0.getD (5:Int).toNat [])=10 by decide,show numW (wd0.getD (6:Int).toNat [])=1000 by decide]
 rfl
end
section
open NU
def limE:NA.Lim:=⟨str [97],str [115],10,10,10,1000⟩
def ordE:Ord:=⟨str [111],str [97],str [115],true,7,50,0,true⟩
def ordF:Ord:=⟨str [111],str [97],str [115],true,7,50,3,true⟩
def exE1:Exe:=⟨str [101,49],⟨#[]⟩,str [111],str [97],str [115],1,true,7,50,1⟩
def exE2:Exe:=⟨str [101,50],⟨#[]⟩,str [111],str [97],str [115],2,true,3,50,2⟩
def bkE1:Bk:=⟨[ordE],[],[str [101,49]],1,0⟩
def bkE2:Bk:=⟨[ordF],[filX exE2],[str [101,49],str [101,50]],2,0⟩
def gE1:Gat:=⟨[default],[limE],false,0,100⟩
def gE2:Gat:=⟨[⟨default,[ordE],0,false⟩],[limE],false,0,100⟩
def gE3:Gat:=⟨[⟨bkE1,[],0,false⟩],[limE],false,0,100⟩
def gE4:Gat:=⟨[⟨bkE2,[],0,false⟩],[limE],false,0,100⟩
theorem rgt0:NO.rightB []=true:=NO.Zy.2 ⟨by decide,fun i hi=>by simp at hi⟩
theorem rgt1:NO.rightB [ordE]=true:=NO.Zy.2 ⟨by decide,fun i hi=>by
 obtain rfl:i=0:=by simp at hi;omega
 decide⟩
theorem set0:NA.setL [] limE=([limE],0):=by
 rw[NA.setL_ins ⟨by decide,fun i hi=>by simp at hi⟩ (by decide) (by decide) (by decide)]
 rfl
theorem ev1:limitG (newG 1 100) limE=(gE1,0):=by
 unfold limitG
 rw[show (newG 1 100).lims=[] from rfl,set0]
 rfl
theorem mul350:NA.mulS 7 50=(350,true):=by
 unfold NA.mulS;rw[if_pos];· rfl
 ·unfold NA.okN;omega
theorem add7:NA.addS 0 7=(7,true):=by
 unfold NA.addS;rw[if_pos];· rfl
 ·unfold NA.okN;omega
theorem why0:whyG gE1 0 ordE=0:=by
 unfold whyG
 rw[if_neg (by decide),if_neg (by decide)]
 have e1:NA.findL gE1.lims ordE.acc ordE.sym=(limE,true):=by rfl
 have e2:worstG gE1 ordE.acc ordE.sym=(0,0):=by decide
 unfold whyL
 rw[e1,e2]
 show NA.whyF limE true (oA ordE) 0 0=0
 unfold NA.whyF
 rw[show (oA ordE).qty=7 from rfl,show (oA ordE).price=50 from rfl,mul350,add7]
 decide
theorem ev2:orderG gE1 0 ⟨str [111],str [97],str [115],true,7,50,0,false⟩=(gE2,0,0):=by
 unfold orderG
 rw[if_neg (by decide),if_neg (by decide),show newO ⟨str [111],str [97],str [115],true,7,50,0,false⟩=ordE from rfl,show (0:Int).toNat=0 from rfl,why0]
 rfl
theorem tk1:takeS default exE1=(bkE1,1):=by
 have h:applyS { (default:Bk) with ids:=(default:Bk).ids++[exE1.id] } exE1=(⟨[ordE],[],[str [101,49]],0,0⟩,0):=by
  unfold applyS
  rw[if_neg (by decide),if_pos (by decide)]
  have:NO.newS ([]:List Ord) (nwX exE1)=([ordE],0):=by
   unfold NO.newS
   rw[rgt0]
   rfl
  rw[show ({ (default:Bk) with ids:=(default:Bk).ids++[exE1.id] }:Bk).ords=[] from rfl,this]
  rfl
 unfold takeS
 rw[if_neg (by decide),if_neg (by decide),h]
 rfl
theorem ev3:toldG gE2 0 exE1=(gE3,1,0):=by
 unfold toldG
 rw[if_neg (by decide),show (vat gE2 0).bk=default from rfl,tk1,if_neg (by decide),if_neg (by decide),if_pos rfl,if_pos (by decide)]
 rfl
theorem tk2:takeS bkE1 exE2=(bkE2,1):=by
 have h:applyS { bkE1 with ids:=bkE1.ids++[exE2.id] } exE2=(⟨[ordF],[filX exE2],[str [101,49],str [101,50]],1,0⟩,0):=by
  unfold applyS
  rw[if_neg (by decide),if_neg (by decide),if_neg (by decide)]
  have h1:NO.findS [ordE] (str [111])=(ordE,true):=by
   unfold NO.findS
   rw[rgt1]
   rfl
  have h2:NO.fillS [ordE] (str [111]) 3 50=([ordF],0):=by
   unfold NO.fillS
   rw[rgt1]
   rfl
  rw[show ({ bkE1 with ids:=bkE1.ids++[exE2.id] }:Bk).ords=[ordE] from rfl,show (if exE2.kind=4 then exE2.ref else exE2.ord)=str [111] from rfl,h1,if_neg (by decide),if_neg (by decide),if_pos (by decide)]
  unfold bfillS
  rw[show ({ bkE1 with ids:=bkE1.ids++[exE2.id] }:Bk).ords=[ordE] from rfl,show exE2.ord=str [111] from rfl,show exE2.qty=3 from rfl,show exE2.price=50 from rfl,h2]
  rfl
 unfold takeS
 rw[if_neg (by decide),if_neg (by decide),h]
 rfl
theorem ev4:toldG gE3 0 exE2=(gE4,1,0):=by
 unfold toldG
 rw[if_neg (by decide),show (vat gE3 0).bk=bkE1 from rfl,tk2,if_neg (by decide),if_neg (by decide),if_pos rfl,if_neg (by decide)]
 rfl
theorem ev5:worstG gE4 (str [97]) (str [115])=(7,0):=by decide
end
section
open NU
theorem shw (n:Int) (l:List UInt8) (h:okN n) (e:Lib.itoa n=l):showL n=l:=by rw[Ye h,e]
theorem shw_s:showL 35=[51,53]∧showL 34=[51,52]∧showL 52=[53,50]∧showL 17=[49,55]∧showL 11=[49,49]∧showL 55=[53,53]∧showL 54=[53,52]∧showL 32=[51,50]∧showL 31=[51,49]∧showL 60=[54,48] :=
 ⟨shw _ _ (by unfold okN;omega) (by kernel_rfl),shw _ _ (by unfold okN;omega) (by kernel_rfl),shw _ _ (by unfold okN;omega) (by kernel_rfl),shw _ _ (by unfold okN;omega) (by kernel_rfl),shw _ _ (by unfold okN;omega) (by kernel_rfl),shw _ _ (by unfold okN;omega) (by kernel_rfl),shw _ _ (by unfold okN;omega) (by kernel_rfl),shw _ _ (by unfold okN;omega) (by kernel_rfl),shw _ _ (by unfold okN;omega) (by kernel_rfl),shw _ _ (by unfold okN;omega) (by kernel_rfl)⟩
def fl1:List Fld:=[(35,s8),(34,str [49]),(52,str [48]),(17,str [101,49]),(11,str [111]),(1,str [97]),(55,str [115]),(54,s1),(150,str [49]),(32,str [55]),(31,str [53,48]),(60,str [49])]
def fl2:List Fld:=[(35,s8),(34,str [49]),(52,str [48]),(17,str [101,50]),(11,str [111]),(1,str [97]),(55,str [115]),(54,s1),(150,str [50]),(32,str [51]),(31,str [53,48]),(60,str [50])]
theorem ms1:msFl exE1=fl1:=by
 show ([((35:Int),s8)]++[((34:Int),str (showL 1))]++[((52:Int),str (showL 0))]++([(17,str [101,49])]++[]++[(11,str [111])]++[(1,str [97])]++[(55,str [115])]++[(54,s1)]++[(150,str (showL 1))]++[(32,str (showL 7))]++[(31,str (showL 50))]++[(60,str (showL 1))]):List Fld)=fl1
 rw[shw_1,shw_0,shw_7,shw_50]
 rfl
theorem ms2:msFl exE2=fl2:=by
 show ([((35:Int),s8)]++[((34:Int),str (showL 1))]++[((52:Int),str (showL 0))]++([(17,str [101,50])]++[]++[(11,str [111])]++[(1,str [97])]++[(55,str [115])]++[(54,s1)]++[(150,str (showL 2))]++[(32,str (showL 3))]++[(31,str (showL 50))]++[(60,str (showL 2))]):List Fld)=fl2
 rw[shw_1,shw_0,shw_2,shw_3,shw_50]
 rfl
def by1:List UInt8:=[51,53,61,56,1,51,52,61,49,1,53,50,61,48,1,49,55,61,101,49,1,49,49,61,111,1,49,61,97,1,53,53,61,115,1,53,52,61,49,1,49,53,48,61,49,1,51,50,61,55,1,51,49,61,53,48,1,54,48,61,49,1]
def by2:List UInt8:=[51,53,61,56,1,51,52,61,49,1,53,50,61,48,1,49,55,61,101,50,1,49,49,61,111,1,49,61,97,1,53,53,61,115,1,53,52,61,49,1,49,53,48,61,50,1,51,50,61,51,1,51,49,61,53,48,1,54,48,61,50,1]
theorem enc1:encL fl1=by1:=by
 obtain ⟨h35,h34,h52,h17,h11,h55,h54,h32,h31,h60⟩:=shw_s
 unfold encL
 simp only[fl1,List.map_cons,List.map_nil,encF,h35,h34,h52,h17,h11,h55,h54,h32,h31,h60,shw_1,shw_150]
 rfl
theorem enc2:encL fl2=by2:=by
 obtain ⟨h35,h34,h52,h17,h11,h55,h54,h32,h31,h60⟩:=shw_s
 unfold encL
 simp only[fl2,List.map_cons,List.map_nil,encF,h35,h34,h52,h17,h11,h55,h54,h32,h31,h60,shw_1,shw_150]
 rfl
theorem mp1:mputS exE1=(by1,0):=by
 have e:putF fl1=(by1,0):=by unfold putF;rw[if_pos ⟨by decide,by decide⟩,enc1]
 unfold mputS
 rw[ms1,e]
 rfl
theorem mp2:mputS exE2=(by2,0):=by
 have e:putF fl2=(by2,0):=by unfold putF;rw[if_pos ⟨by decide,by decide⟩,enc2]
 unfold mputS
 rw[ms2,e]
 rfl
theorem rs1:repS exE1=⟨(rpL by1).toArray⟩:=by unfold repS;rw[mp1]
theorem rs2:repS exE2=⟨(rpL by2).toArray⟩:=by unfold repS;rw[mp2]
def aE0:Ask:=⟨8,0,zOrd,⟨#[]⟩,zExe,0,false,limE⟩
def aE1:Ask:=⟨1,0,⟨str [111],str [97],str [115],true,7,50,0,false⟩,⟨#[]⟩,zExe,0,false,zLim⟩
def aE2:Ask:=⟨3,0,zOrd,⟨#[]⟩,exE1,0,false,zLim⟩
def aE3:Ask:=⟨3,0,zOrd,⟨#[]⟩,exE2,0,false,zLim⟩
theorem as0:asked8 wd0=aE0:=a0_eq
theorem as1:asked1 wd1=aE1:=by
 unfold asked1 nAt
 rw[show numW (wd1.getD (1:Int).toNat [])=0 by decide,show numW (wd1.getD (6:Int).toNat [])=7 by decide,show numW (wd1.getD (7:Int).toNat [])=50 by decide]
 rfl
theorem as2:asked3 wd2 ⟨#[]⟩=aE2:=by
 unfold asked3 nAt
 rw[show numW (wd2.getD (1:Int).toNat [])=0 by decide,show numW (wd2.getD (9:Int).toNat [])=7 by decide,show numW (wd2.getD (10:Int).toNat [])=50 by decide,show numW (wd2.getD (11:Int).toNat [])=1 by decide]
 rfl
theorem as3:asked3 wd3 ⟨#[]⟩=aE3:=by
 unfold asked3 nAt
 rw[show numW (wd3.getD (1:Int).toNat [])=0 by decide,show numW (wd3.getD (9:Int).toNat [])=3 by decide,show numW (wd3.getD (10:Int).toNat [])=50 by decide,show numW (wd3.getD (11:Int).toNat [])=2 by decide]
 rfl
theorem enc_ne:∀(f:Fld) (l:List Fld),1≤(encL (f::l)).length:=fun f l=>by
 unfold encL
 rw[List.map_cons,List.flatten_cons,List.length_append]
 unfold encF
 simp only[List.length_append,List.length_cons,List.length_nil]
 omega
theorem put_of {a:Ask} (h:mayK a=true) (f:Fld) (l:List Fld) (e:fieldsK a=f::l) (h2:(f::l).all fldB=true):(putK a).2=0∧1≤(putK a).1.length:=by
 have hl:=fieldsK_len a
 have e2:putF (fieldsK a)=(encL (fieldsK a),0):=by
  unfold putF
  rw[if_pos ⟨by omega,by rw[e];exact h2⟩]
 unfold putK
 rw[if_pos h,e2,if_pos rfl,e]
 exact ⟨rfl,enc_ne f l⟩
theorem pt0:(putK aE0).2=0∧1≤(putK aE0).1.length:=put_of (as0 ▸ may0) (1,str (showL 8)) [(4,str [97]),(5,str [115]),(12,str (showL 10)),(13,str (showL 10)),(7,str (showL 10)),(8,str (showL 1000))] rfl (by rw[shw_8,shw_10,shw_1000];decide)
theorem pt1:(putK aE1).2=0∧1≤(putK aE1).1.length:=put_of (as1 ▸ may1) (1,str (showL 1)) [(2,str (showL 0)),(3,str [111]),(4,str [97]),(5,str [115]),(6,s1),(7,str (showL 7)),(8,str (showL 50))] rfl (by rw[shw_1,shw_0,shw_7,shw_50];decide)
theorem pt2:(putK aE2).2=0∧1≤(putK aE2).1.length:=put_of (as2 ▸ may2) (1,str (showL 3)) [(2,str (showL 0)),(9,repS exE1)] rfl (by rw[shw_3,shw_0,rs1];decide)
theorem pt3:(putK aE3).2=0∧1≤(putK aE3).1.length:=put_of (as3 ▸ may3) (1,str (showL 3)) [(2,str (showL 0)),(9,repS exE2)] rfl (by rw[shw_3,shw_0,rs2];decide)
theorem do_ok {k:Kee} {g g':Gat} {a:Ask} {n:Int} (hp:(putK a).2=0∧1≤(putK a).1.length) (hk:k.s0.length+k.t0.length≤40000) (ha:askG g a=(g',n,0)) :
 ∃k',doK k g a=((k',g'),n,0)∧k'.s0.length+k'.t0.length≤k.s0.length+k.t0.length+5000:=by
 have hl:=putK_len a
 have e:addK k (putK a).1=({ k with t0:=k.t0++ND.put (bytI (putK a).1) },0):=by
  unfold addK
  rw[if_pos hp.2,if_pos (by omega)]
 refine ⟨{ k with t0:=k.t0++ND.put (bytI (putK a).1) },?_,?_⟩
 ·unfold doK
  rw[if_neg (by rw[hp.1];decide),ha,if_neg (fun h=>h rfl),e,if_neg (fun h=>h rfl)]
 ·have h1:=ND.put_len (bytI (putK a).1)
  have h2:(bytI (putK a).1).length=(putK a).1.length:=by simp[bytI]
  show k.s0.length+(k.t0++ND.put (bytI (putK a).1)).length≤_
  rw[List.length_append];omega
theorem ask0:askG (newG 1 100) aE0=(gE1,0,0):=by
 unfold askG
 rw[if_neg (by decide),if_neg (by decide),if_neg (by decide),if_neg (by decide),if_neg (by decide),if_neg (by decide),if_neg (by decide),if_pos (by decide),show aE0.l=limE from rfl,ev1]
theorem ask1:askG gE1 aE1=(gE2,0,0):=by unfold askG;rw[if_pos (by decide)];exact ev2
theorem ask2:askG gE2 aE2=(gE3,1,0):=by unfold askG;rw[if_neg (by decide),if_neg (by decide),if_pos (by decide)];exact ev3
theorem ask3:askG gE3 aE3=(gE4,1,0):=by unfold askG;rw[if_neg (by decide),if_neg (by decide),if_pos (by decide)];exact ev4
end
section
open NU
def colS:ByteArray:=⟨#[58]⟩
theorem sz1:ByteArray.size ⟨#[58]⟩=1:=rfl
def qDQ1:=PLift.up (An @NA.getD_pR (An @Zh (An @sz1 (An @ByteArray.size_append @List.getD_cons_zero.{0}))))
theorem dpos_c (k:Kee) (g:Gat) (hg:gatP g) (hl:(listsG g).flatten.length≤1000) (p:NA.Pos) (hp:posG g=[p]) (ho:p.over=false) (ha:p.acc.size≤100) (hs:p.sym.size≤100) (h1:(str (showL p.qty)).size≤1000) (h2:(str (showL p.value)).size≤1000) (x:ByteArray)
 (T:ByteArray) (hT:p.acc++colS++p.sym++colS++(strN p.qty++colS++strN p.value)=T) :
 ACall Tryz.prog 190 [.loc (keC k g)] [.p 0 0,ssD [x]] (StD T) [.loc (keC k g)]:=by
 have hgp:=gpos_c g hg hl [p] hp
 obtain ⟨a,s,q,v,o⟩:=p
 dsimp only at ho ha hs h1 h2 hT
 subst ho
 have hsz1:True:=trivial
 have hsz2:True:=trivial
 refine Ac Tryz.func190 ?_
 refine Wk qDQ1.1 (An @hgp @NU.Zz) ?_
 refine Cc ?_ ?_<;>intro hc<;>(try simp only[Za,ne_eq]at hc)
 ·contradiction
 ·refine Wk qDQ1.1 (An @hgp @NU.Zz) ?_
  refine AWp.loop (fun i:Nat=>mkSt [(0,.p 0 0),(5,.e (.c (.o 1 i))),(20,NA.psD [⟨a,s,q,v,false⟩]),(21,I 1),(22,I i)] [(0,.loc (keC k g)),(1,.row 1 (sR (List.replicate i T)))] 2)
   (fun i=>i≤1) (fun i=>1 - i) 0 (Nat.zero_le _) (by refine Le.of (τ:=[]) (ν:=[1]) (by kernel_rfl) ?_ ?_<;>((first|exact Lw qDQ1.1 trivial|refine Lw qDQ1.1 ?_);try (first|omega|rfl))) fun i hi=>?_
  refine Wk qDQ1.1 (An @hgp @NU.Zz) ?_
  refine Cc ?_ ?_<;>intro hc<;>(try simp only[Za,ne_eq]at hc)
  ·obtain rfl:i=0:=by omega
   refine Wk qDQ1.1 (An @hgp @NU.Zz) ?_
   refine Cc ?_ ?_<;>intro hc<;>(try simp only[Za,ne_eq]at hc)
   ·refine Wk qDQ1.1 (An @hgp @NU.Zz) ?_
    refine Zb 1 (Nat.le_refl _) (by omega) (by refine Le.of (τ:=[(1,1858)]) (ν:=[]) (by kernel_rfl) ?_ ?_<;>((first|exact Lw qDQ1.1 trivial|refine Lw qDQ1.1 ?_);try (first|omega|(refine ⟨?_,rfl⟩;omega)|rfl|(rw[←hT];rfl))))
   ·contradiction
  ·obtain rfl:i=1:=by omega
   have hjs:joinS [T] spS=T:=by unfold joinS;rw[List.map_cons,List.map_nil,Lib.join_one]
   have hjoin:=join_c [T] spS (by simp) (by rw[hjs,←hT];simp only[ByteArray.size_append];show a.size+1+s.size+1+((str (showL q)).size+1+(str (showL v)).size)≤1000000;omega)
   rw[hjs]at hjoin
   refine Wk qDQ1.1 (An @hgp (An @hjoin @NU.Zz)) ?_
   refine Cc ?_ ?_<;>intro hc<;>(try simp only[Za,ne_eq]at hc)
   ·contradiction
   ·refine Wk qDQ1.1 (An @hgp (An @hjoin @NU.Zz)) ?_
    refine Fs @Tryz.results190 ?_
    refine ⟨[0],[],[],by kernel_rfl,?_,?_⟩<;>((first|exact Lw qDQ1.1 trivial|refine Lw qDQ1.1 ?_);try (first|omega|rfl))
end
section
open NU
theorem mul150:NA.mulS 3 50=(150,true):=by
 unfold NA.mulS;rw[if_pos];· rfl
 ·unfold NA.okN;omega
theorem posE:posN bkE2 ⟨str [97],str [115]⟩=⟨str [97],str [115],3,150,false⟩:=by
 have hf:bkE2.fills.filter (selF (str [97]) (str [115]))=[filX exE2]:=rfl
 have hm:mulF (filX exE2)=(150,true):=mul150
 show posL (str [97]) (str [115]) (bkE2.fills.filter (selF (str [97]) (str [115])))=_
 rw[hf]
 unfold posL
 rw[show [filX exE2].map sgnF=[3] from rfl,show [filX exE2].map (fun f=>(mulF f).1)=[(mulF (filX exE2)).1] from rfl,hm,NA.sumS_one (by unfold NA.okN;omega),NA.sumS_one (by unfold NA.okN;omega),if_pos]
 exact ⟨fun f hf=>by rw[List.mem_singleton.1 hf,hm],rfl,rfl⟩
theorem lall4:lallF bkE2=[⟨str [97],str [115],3,150,false⟩]:=by
 have h1:sortN (namesF bkE2)=[⟨str [97],str [115]⟩]:=List.mergeSort_singleton _
 unfold lallF
 rw[h1,show dedN [(⟨str [97],str [115]⟩:Nam)]=[⟨str [97],str [115]⟩] from rfl,List.map_cons,List.map_nil,posE]
theorem lists4:listsG gE4=[[⟨str [97],str [115],3,150,false⟩]]:=by
 show [lallF bkE2]=_
 rw[lall4]
theorem pos4:posG gE4=[⟨str [97],str [115],3,150,false⟩]:=by
 have h:NA.rgtP [⟨str [97],str [115],3,150,false⟩]:=fun i hi=>by
  obtain rfl:i=0:=by simp at hi;omega
  exact ⟨fun h=>absurd h (Nat.lt_irrefl _),by unfold NA.okN;exact ⟨by decide,by decide⟩,by unfold NA.okN;exact ⟨by decide,by decide⟩,fun h=>by cases h⟩
 unfold posG
 rw[lists4,NA.allS_one h,if_neg (fun h=>h rfl)]
theorem wj0:joinS (words8 aE0) spS=str (lnS.getD 0 []):=by
 have:words8 aE0=[str (asksL.getD 8 []),str [97],str [115],str [49,48],str [49,48],str [49,48],str [49,48,48,48]]:=by
  show [_,_,_,str (showL 10),str (showL 10),str (showL 10),str (showL 1000)]=_
  rw[shw_10,shw_1000]
  rfl
 exact (congrArg (fun l=>joinS l spS) this).trans (by kernel_rfl)
theorem wj1:joinS (words1 aE1) spS=str (lnS.getD 1 []):=by
 have:words1 aE1=[str (asksL.getD 1 []),str [48],str [111],str [97],str [115],str [98,117,121],str [55],str [53,48]]:=by
  show [_,str (showL 0),_,_,_,_,str (showL 7),str (showL 50)]=_
  rw[shw_0,shw_7,shw_50]
  rfl
 exact (congrArg (fun l=>joinS l spS) this).trans (by kernel_rfl)
theorem wj2:joinS (words31 aE2) spS=str (lnS.getD 2 []):=by
 have:words31 aE2=[str (asksL.getD 3 []),str [48],str (execsL.getD 1 []),str [101,49],str [45],str [111],str [97],str [115],str [98,117,121],str [55],str [53,48],str [49]]:=by
  show [_,str (showL 0),_,_,_,_,_,_,_,str (showL 7),str (showL 50),str (showL 1)]=_
  rw[shw_0,shw_7,shw_50,shw_1]
  rfl
 exact (congrArg (fun l=>joinS l spS) this).trans (by kernel_rfl)
theorem wj3:joinS (words32 aE3) spS=str (lnS.getD 3 []):=by
 have:words32 aE3=[str (asksL.getD 3 []),str [48],str (execsL.getD 2 []),str [101,50],str [45],str [111],str [97],str [115],str [98,117,121],str [51],str [53,48],str [50]]:=by
  show [_,str (showL 0),_,_,_,_,_,_,_,str (showL 3),str (showL 50),str (showL 2)]=_
  rw[shw_0,shw_3,shw_50,shw_2]
  rfl
 exact (congrArg (fun l=>joinS l spS) this).trans (by kernel_rfl)
theorem works_c:ACall Tryz.prog 6 [] [] (B true) []:=by
 have hg0:gatP (newG 1 100):=newG_right (by omega) (by omega) (by unfold timeP;omega)
 have hk0:=newE_right 1 100
 have hs0:(newE 1 100).s0.length+(newE 1 100).t0.length≤1000:=by
  show (ND.put (ND.first 1 [])).length+0≤1000
  rw[ND.put_len,ND.first_len]
  decide
 obtain ⟨k1,e1,l1⟩:=do_ok (k:=newE 1 100) pt0 (by omega) ask0
 have r1:=doK_right (a:=aE0) hk0 hg0
 rw[e1]at r1
 obtain ⟨k2,e2,l2⟩:=do_ok (k:=k1) pt1 (by omega) ask1
 have r2:=doK_right (a:=aE1) r1.1 r1.2
 rw[e2]at r2
 obtain ⟨k3,e3,l3⟩:=do_ok (k:=k2) pt2 (by omega) ask2
 have r3:=doK_right (a:=aE2) r2.1 r2.2
 rw[e3]at r3
 obtain ⟨k4,e4,l4⟩:=do_ok (k:=k3) pt3 (by omega) ask3
 have r4:=doK_right (a:=aE3) r3.1 r3.2
 rw[e4]at r4
 dsimp only at r1 r2 r3 r4
 let ke:Nat→Kee:=fun i=>[newE 1 100,k1,k2,k3,k4,k4,k4].getD i k4
 let ga:Nat→Gat:=fun i=>[newG 1 100,gE1,gE2,gE3,gE4,gE4,gE4].getD i gE4
 let T:Nat→ByteArray:=fun i=>[⟨#[111,107]⟩,⟨#[108,101,116]⟩,⟨(Lib.decDigits 1).toArray⟩,⟨(Lib.decDigits 1).toArray⟩,str [97,58,115,58,51,58,49,53,48],str [55,32,48]].getD i default
 have hrun:=play_run script (by decide) (by decide) lnS ln_script ke ga T rfl rfl (fun i hi=>by
  have:i<6:=hi
  match i,this with
  | 0,_=>exact ⟨_,_,rfl,by decide⟩
  | 1,_=>exact ⟨_,_,rfl,by decide⟩
  | 2,_=>exact ⟨_,_,rfl,by decide⟩
  | 3,_=>exact ⟨_,_,rfl,by decide⟩
  | 4,_=>exact ⟨_,_,rfl,by decide⟩
  | 5,_=>exact ⟨_,_,rfl,by decide⟩) (fun i hi=>by
  have:i<6:=hi
  match i,this with
  | 0,_ =>
   rw[wd0_eq]
   have hsh:=tshow_c aE0 (words8 aE0) (words8_c aE0) (Nat.le_of_ble_eq_true rfl) (by rw[wj0];decide) pt0.1
   rw[wj0]at hsh
   have hpa:=tparse_c (lnS.getD 0 []) (by decide) wd0 wd0_eq 8 pl8 (by decide) aE0 (as0 ▸ asked8_c wd0 (by decide) (by decide)) hsh
   exact dask8_c (newE 1 100) (newG 1 100) hk0 hg0 (wd0.map str) (by decide) (lnS.getD 0 []) (by decide) (by kernel_rfl) aE0 (by decide) hpa _ e1 rfl
  | 1,_ =>
   rw[wd1_eq]
   have hsh:=tshow_c aE1 (words1 aE1) (words1_c aE1) (Nat.le_of_ble_eq_true rfl) (by rw[wj1];decide) pt1.1
   rw[wj1]at hsh
   have hpa:=tparse_c (lnS.getD 1 []) (by decide) wd1 wd1_eq 1 pl1 (by decide) aE1 (as1 ▸ asked1_c wd1 (by decide) (by decide)) hsh
   exact dask1_c k1 gE1 r1.1 r1.2 (wd1.map str) (by decide) (lnS.getD 1 []) (by decide) (by kernel_rfl) aE1 (by decide) hpa _ e2 rfl rfl
  | 2,_ =>
   rw[wd2_eq]
   have hsh:=tshow_c aE2 (words31 aE2) (words31_c aE2) (Nat.le_of_ble_eq_true rfl) (by rw[wj2];decide) pt2.1
   rw[wj2]at hsh
   have hpa:=tparse_c (lnS.getD 2 []) (by decide) wd2 wd2_eq 3 pl3 (by decide) aE2 (as2 ▸ asked3_c wd2 (by decide) (by decide) ⟨#[]⟩ (by decide)) hsh
   exact dask3_c k2 gE2 r2.1 r2.2 (wd2.map str) (by decide) (lnS.getD 2 []) (by decide) (by kernel_rfl) aE2 (by decide) hpa _ e3 rfl 1 (by decide) rfl
  | 3,_ =>
   rw[wd3_eq]
   have hsh:=tshow_c aE3 (words32 aE3) (words32_c aE3) (Nat.le_of_ble_eq_true rfl) (by rw[wj3];decide) pt3.1
   rw[wj3]at hsh
   have hpa:=tparse_c (lnS.getD 3 []) (by decide) wd3 wd3_eq 3 (by decide) (by decide) aE3 (as3 ▸ asked3_c wd3 (by decide) (by decide) ⟨#[]⟩ (by decide)) hsh
   exact dask3_c k3 gE3 r3.1 r3.2 (wd3.map str) (by decide) (lnS.getD 3 []) (by decide) (by kernel_rfl) aE3 (by decide) hpa _ e4 rfl 1 (by decide) rfl
  | 4,_ =>
   rw[wd4_eq]
   exact dpos_c k4 gE4 r4.2 (by rw[lists4];decide) _ pos4 rfl (by decide) (by decide) (by rw[shw_3];decide) (by rw[shw_150];decide) _ _ (by show (str [97]++colS++str [115]++colS++(str (showL 3)++colS++str (showL 150)):ByteArray)=str [97,58,115,58,51,58,49,53,48];rw[shw_3,shw_150];rfl)
  | 5,_ =>
   rw[wd5_eq]
   have h:=dworst_c k4 gE4 r4.2 (str [119,111,114,115,116]) (str [97]) (str [115]) (by decide) (by decide) (by rw[ev5,shw_7];decide) (by rw[ev5,shw_0];decide)
   rw[ev5]at h
   replace h:ACall Tryz.prog 189 [.loc (keC k4 gE4)] [.p 0 0,ssD [str [119,111,114,115,116],str [97],str [115]]] (StD (str (showL 7)++(⟨#[32]⟩:ByteArray)++str (showL 0))) [.loc (keC k4 gE4)]:=h
   rw[shw_7,shw_0]at h
   exact h)
 refine works_of ((List.range 6).map T) (Play_run _ _ _ hrun) rfl rfl rfl
end
end Eng
end Go.Proofs.YtgenjpingdkmgaaGreatDoor
