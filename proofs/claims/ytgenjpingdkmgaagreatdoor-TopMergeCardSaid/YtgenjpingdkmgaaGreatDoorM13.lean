/- Contracts of functions that this seat's law calls. No condition. -/
import Derived.Test.YtgenjpingdkmgaaGreatDoorM12
set_option maxRecDepth 100000
set_option linter.unusedSimpArgs false
set_option linter.unusedVariables false
namespace Go.Proofs.YtgenjpingdkmgaaGreatDoor
namespace Eng
structure Box (R:Prop):Prop where
 out:R
theorem tyAll:type_of% (And.intro @tl1 (And.intro @tl2 (And.intro @tl3 (And.intro @tl4 (And.intro @tl5 (And.intro @tl9 (And.intro @tl21 (And.intro @tl22 (And.intro @tl24 (And.intro @tl26 (And.intro @tl27 (And.intro @tl29 (And.intro @tl31 (And.intro @tl32 (And.intro @tl33 (And.intro @tl35 (And.intro @tl37 (And.intro @tl38 (And.intro @tl44 (And.intro @tl46 (And.intro @tl48 (And.intro @tl50 (And.intro @tl51 (And.intro @tl52 (And.intro @tl54 (And.intro @tl55 (And.intro @tl56 (And.intro @tl58 (And.intro @tl60 (And.intro @tl66 (And.intro @tl69 (And.intro @tl107 (And.intro @tl109 (And.intro @tl111 (And.intro @tl115 (And.intro @tl119 (And.intro @tl126 (And.intro @tl132 (And.intro @tl149 (And.intro @tl157 (And.intro @tl171 (And.intro @tl184 (And.intro @tl192 (And.intro @tl193 (And.intro @tl200 (And.intro @tl207 (And.intro @tl209 (And.intro @tl214 (And.intro @tl217 (And.intro @tl219 (And.intro @tl223 (And.intro @tl237 (And.intro @tl246 (And.intro @tl255 (And.intro @tl269 (And.intro @tl289 (And.intro @tl295 (And.intro @tl299 (And.intro @tl301 (And.intro @tl302 (And.intro @tl304 (And.intro @tl313 (And.intro @tl317 (And.intro @tl319 (And.intro @tl343 (And.intro @tl348 (And.intro @tl352 (And.intro @tl356 (And.intro @tl365 (And.intro @tl368 (And.intro @tl370 (And.intro @tl375 (And.intro @tl380 (And.intro @tl384 (And.intro @tl387 (And.intro @tl392 (And.intro @tl396 (And.intro @tl397 (And.intro @tl399 (And.intro @tl401 (And.intro @tl411 (And.intro @tl414 (And.intro @tl419 (And.intro @tl424 (And.intro @tl426 (And.intro @tl427 (And.intro @tl430 @tl436))))))))))))))))))))))))))))))))))))))))))))))))))))))))))))))))))))))))))))))))))))))):=(And.intro @tl1 (And.intro @tl2 (And.intro @tl3 (And.intro @tl4 (And.intro @tl5 (And.intro @tl9 (And.intro @tl21 (And.intro @tl22 (And.intro @tl24 (And.intro @tl26 (And.intro @tl27 (And.intro @tl29 (And.intro @tl31 (And.intro @tl32 (And.intro @tl33 (And.intro @tl35 (And.intro @tl37 (And.intro @tl38 (And.intro @tl44 (And.intro @tl46 (And.intro @tl48 (And.intro @tl50 (And.intro @tl51 (And.intro @tl52 (And.intro @tl54 (And.intro @tl55 (And.intro @tl56 (And.intro @tl58 (And.intro @tl60 (And.intro @tl66 (And.intro @tl69 (And.intro @tl107 (And.intro @tl109 (And.intro @tl111 (And.intro @tl115 (And.intro @tl119 (And.intro @tl126 (And.intro @tl132 (And.intro @tl149 (And.intro @tl157 (And.intro @tl171 (And.intro @tl184 (And.intro @tl192 (And.intro @tl193 (And.intro @tl200 (And.intro @tl207 (And.intro @tl209 (And.intro @tl214 (And.intro @tl217 (And.intro @tl219 (And.intro @tl223 (And.intro @tl237 (And.intro @tl246 (And.intro @tl255 (And.intro @tl269 (And.intro @tl289 (And.intro @tl295 (And.intro @tl299 (And.intro @tl301 (And.intro @tl302 (And.intro @tl304 (And.intro @tl313 (And.intro @tl317 (And.intro @tl319 (And.intro @tl343 (And.intro @tl348 (And.intro @tl352 (And.intro @tl356 (And.intro @tl365 (And.intro @tl368 (And.intro @tl370 (And.intro @tl375 (And.intro @tl380 (And.intro @tl384 (And.intro @tl387 (And.intro @tl392 (And.intro @tl396 (And.intro @tl397 (And.intro @tl399 (And.intro @tl401 (And.intro @tl411 (And.intro @tl414 (And.intro @tl419 (And.intro @tl424 (And.intro @tl426 (And.intro @tl427 (And.intro @tl430 @tl436)))))))))))))))))))))))))))))))))))))))))))))))))))))))))))))))))))))))))))))))))))))))
theorem Wk {E C R G:Prop} (e:E) (c:C) (k:R) (h:E→C→Box R→G:=by
 intro e c k
 repeat' (first
  | ((fail_if_success clear hK);change AWp _ _ _ _ _ _;first|refine AWp.seq ?_|refine AWp.text (own:=nO) tG_ok (by kernel_rfl) (fun K hK=>?_)|refine AWp.draw (own:=nO) tG_ok mixed (by kernel_rfl) (by kernel_rfl) (fun K hK=>?_)|refine AWp.skip ?_|refine AWp.ret ?_|refine AWp.exit ?_|refine AWp.label ?_|refine AWp.block ?_)
  | (revert hK;intro hK;first
   | (with_reducible refine hK _ _ _ ?_;clear hK K)
   | (with_reducible refine hK _ _ _ ?_ ?_;(focus kernel_rfl);clear hK K)
   | ((with_reducible change CallS _ _ _ _ _ _);first|refine CallS.of (by first|exact c|(apply c<;>first|omega|assumption|(simp only[List.length_take,List.length_append,List.length_drop,List.length_map];omega))) ?_|refine CallS.of (by first|exact c.1|(apply c.1<;>first|omega|assumption|(simp only[List.length_take,List.length_append,List.length_drop,List.length_map];omega))) ?_|refine CallS.of (by first|exact c.2.1|(apply c.2.1<;>first|omega|assumption|(simp only[List.length_take,List.length_append,List.length_drop,List.length_map];omega))) ?_|refine CallS.of (by first|exact c.2.2.1|(apply c.2.2.1<;>first|omega|assumption|(simp only[List.length_take,List.length_append,List.length_drop,List.length_map];omega))) ?_|refine CallS.of (by first|exact c.2.2.2.1|(apply c.2.2.2.1<;>first|omega|assumption|(simp only[List.length_take,List.length_append,List.length_drop,List.length_map];omega))) ?_|refine CallS.of (by first|exact c.2.2.2.2.1|(apply c.2.2.2.2.1<;>first|omega|assumption|(simp only[List.length_take,List.length_append,List.length_drop,List.length_map];omega))) ?_|refine CallS.of (by first|exact c.2.2.2.2.2.1|(apply c.2.2.2.2.2.1<;>first|omega|assumption|(simp only[List.length_take,List.length_append,List.length_drop,List.length_map];omega))) ?_|refine CallS.of (by first|exact c.2.2.2.2.2.2.1|(apply c.2.2.2.2.2.2.1<;>first|omega|assumption|(simp only[List.length_take,List.length_append,List.length_drop,List.length_map];omega))) ?_|refine CallS.of (by first|exact c.2.2.2.2.2.2.2.1|(apply c.2.2.2.2.2.2.2.1<;>first|omega|assumption|(simp only[List.length_take,List.length_append,List.length_drop,List.length_map];omega))) ?_|refine CallS.of (by first|exact c.2.2.2.2.2.2.2.2.1|(apply c.2.2.2.2.2.2.2.2.1<;>first|omega|assumption|(simp only[List.length_take,List.length_append,List.length_drop,List.length_map];omega))) ?_|refine CallS.of (by first|exact c.2|(apply c.2<;>first|omega|assumption|(simp only[List.length_take,List.length_append,List.length_drop,List.length_map];omega))) ?_|refine CallS.of (by first|exact c.2.2|(apply c.2.2<;>first|omega|assumption|(simp only[List.length_take,List.length_append,List.length_drop,List.length_map];omega))) ?_|refine CallS.of (by first|exact c.2.2.2|(apply c.2.2.2<;>first|omega|assumption|(simp only[List.length_take,List.length_append,List.length_drop,List.length_map];omega))) ?_|refine CallS.of (by first|exact c.2.2.2.2|(apply c.2.2.2.2<;>first|omega|assumption|(simp only[List.length_take,List.length_append,List.length_drop,List.length_map];omega))) ?_|refine CallS.of (by first|exact c.2.2.2.2.2|(apply c.2.2.2.2.2<;>first|omega|assumption|(simp only[List.length_take,List.length_append,List.length_drop,List.length_map];omega))) ?_|refine CallS.of (by first|exact c.2.2.2.2.2.2|(apply c.2.2.2.2.2.2<;>first|omega|assumption|(simp only[List.length_take,List.length_append,List.length_drop,List.length_map];omega))) ?_|refine CallS.of (by first|exact c.2.2.2.2.2.2.2|(apply c.2.2.2.2.2.2.2<;>first|omega|assumption|(simp only[List.length_take,List.length_append,List.length_drop,List.length_map];omega))) ?_|refine CallS.of (by first|exact c.2.2.2.2.2.2.2.2|(apply c.2.2.2.2.2.2.2.2<;>first|omega|assumption|(simp only[List.length_take,List.length_append,List.length_drop,List.length_map];omega))) ?_|refine CallS.of (by first|exact c.2.2.2.2.2.2.2.2.2|(apply c.2.2.2.2.2.2.2.2.2<;>first|omega|assumption|(simp only[List.length_take,List.length_append,List.length_drop,List.length_map];omega))) ?_|refine CallS.ext (by first|exact c|(apply c<;>first|omega|assumption|(simp only[List.length_take,List.length_append,List.length_drop,List.length_map];omega))) ?_|refine CallS.ext (by first|exact c.1|(apply c.1<;>first|omega|assumption|(simp only[List.length_take,List.length_append,List.length_drop,List.length_map];omega))) ?_|refine CallS.ext (by first|exact c.2.1|(apply c.2.1<;>first|omega|assumption|(simp only[List.length_take,List.length_append,List.length_drop,List.length_map];omega))) ?_|refine CallS.ext (by first|exact c.2.2.1|(apply c.2.2.1<;>first|omega|assumption|(simp only[List.length_take,List.length_append,List.length_drop,List.length_map];omega))) ?_|refine CallS.ext (by first|exact c.2.2.2.1|(apply c.2.2.2.1<;>first|omega|assumption|(simp only[List.length_take,List.length_append,List.length_drop,List.length_map];omega))) ?_|refine CallS.ext (by first|exact c.2.2.2.2.1|(apply c.2.2.2.2.1<;>first|omega|assumption|(simp only[List.length_take,List.length_append,List.length_drop,List.length_map];omega))) ?_|refine CallS.ext (by first|exact c.2.2.2.2.2.1|(apply c.2.2.2.2.2.1<;>first|omega|assumption|(simp only[List.length_take,List.length_append,List.length_drop,List.length_map];omega))) ?_|refine CallS.ext (by first|exact c.2.2.2.2.2.2.1|(apply c.2.2.2.2.2.2.1<;>first|omega|assumption|(simp only[List.length_take,List.length_append,List.length_drop,List.length_map];omega))) ?_|refine CallS.ext (by first|exact c.2.2.2.2.2.2.2.1|(apply c.2.2.2.2.2.2.2.1<;>first|omega|assumption|(simp only[List.length_take,List.length_append,List.length_drop,List.length_map];omega))) ?_|refine CallS.ext (by first|exact c.2.2.2.2.2.2.2.2.1|(apply c.2.2.2.2.2.2.2.2.1<;>first|omega|assumption|(simp only[List.length_take,List.length_append,List.length_drop,List.length_map];omega))) ?_|refine CallS.ext (by first|exact c.2|(apply c.2<;>first|omega|assumption|(simp only[List.length_take,List.length_append,List.length_drop,List.length_map];omega))) ?_|refine CallS.ext (by first|exact c.2.2|(apply c.2.2<;>first|omega|assumption|(simp only[List.length_take,List.length_append,List.length_drop,List.length_map];omega))) ?_|refine CallS.ext (by first|exact c.2.2.2|(apply c.2.2.2<;>first|omega|assumption|(simp only[List.length_take,List.length_append,List.length_drop,List.length_map];omega))) ?_|refine CallS.ext (by first|exact c.2.2.2.2|(apply c.2.2.2.2<;>first|omega|assumption|(simp only[List.length_take,List.length_append,List.length_drop,List.length_map];omega))) ?_|refine CallS.ext (by first|exact c.2.2.2.2.2|(apply c.2.2.2.2.2<;>first|omega|assumption|(simp only[List.length_take,List.length_append,List.length_drop,List.length_map];omega))) ?_|refine CallS.ext (by first|exact c.2.2.2.2.2.2|(apply c.2.2.2.2.2.2<;>first|omega|assumption|(simp only[List.length_take,List.length_append,List.length_drop,List.length_map];omega))) ?_|refine CallS.ext (by first|exact c.2.2.2.2.2.2.2|(apply c.2.2.2.2.2.2.2<;>first|omega|assumption|(simp only[List.length_take,List.length_append,List.length_drop,List.length_map];omega))) ?_|refine CallS.ext (by first|exact c.2.2.2.2.2.2.2.2|(apply c.2.2.2.2.2.2.2.2<;>first|omega|assumption|(simp only[List.length_take,List.length_append,List.length_drop,List.length_map];omega))) ?_|refine CallS.ext (by first|exact c.2.2.2.2.2.2.2.2.2|(apply c.2.2.2.2.2.2.2.2.2<;>first|omega|assumption|(simp only[List.length_take,List.length_append,List.length_drop,List.length_map];omega))) ?_|refine CallS.of_if (val:=.top) (bo:=[]) (fun h=>by cases h) ?_)
   | (with_reducible refine And.intro ?_ ?_)
   | (simp (disch:=omega) only[↓reduceIte,Zo,backT,pos,idsB,idsC,nodup,live,makeSliceE,viewE,viewFE,appendUE,appendFE,capFE,copyE,copySrc,clearE,guardB,isNilOp,nilS,withTy,splice,lenE,appendE,sliceE,boundE,indexAddrE,indexE,buildE,fillE,buildSliceE,partsE,builtinE,minE,minI,convE,convHE,appendNE,capE,D.x,id_eq,eq_self,if_true,if_false,ne_eq,implies_true,Nat.reduceAdd,Nat.reduceMul,Nat.reduceSub,Nat.reduceEqDiff,Nat.reduceLT,Nat.reduceLeDiff,reduceCtorEq,Zp,forall_const,Nat.reduceBEq,Int.reduceEq,Int.reduceToNat,bne_self_eq_false,tyAll,e])
   | (first|omega|(intro hq;(try simp only[Za,ne_eq,Bool.not_not,Bool.and_true]at hq);first|omega|assumption|(simp_all;done))|(simp_all;done))
   | (intro (bn:Bool) hbn)))
 exact k.out):G:=h e c ⟨k⟩
structure Own (f:Nat→Bool):Prop where
 mk ::
theorem AWp.textO {P:Program} {Γ:Nat→Option Ty} {N m0:Nat} {own:Nat→Bool} {Q:Exit→St→Prop} {st:St} (_:Own own) (hΓ:TysOk P Γ) {id:Nat} {ops:Array Oper} (hN:dstOk N ops=true) (h:∀K:(Nat→D)→(Nat→Option Blk)→Nat→Prop,(∀En H nx,Q .normal ⟨En,H,nx⟩→K En H nx)→goN P Γ own (dstL ops.toList) K st.nx ops.toList st.En st.H) :
 AWp P N m0 (.region id ops false) Q st:=AWp.text hΓ hN h
theorem AWp.drawO {P:Program} {Γ:Nat→Option Ty} {N m0:Nat} {own:Nat→Bool} {Q:Exit→St→Prop} {st:St} (_:Own own) (hΓ:TysOk P Γ) (hmix:P.follows .mixedOrders=true) {id:Nat} {ops:Array Oper} (hN:dstOk N ops=true) (hst:statOk ops=true)
 (h:∀K:(Nat→D)→(Nat→Option Blk)→List (List Nat×List Nat)→Prop,(∀En H hist,chk ops st.nx hist=true→Q .normal ⟨En,H,st.nx+64*ops.size⟩→K En H hist)→goS P Γ own (dstL ops.toList) K st.nx ops.toList st.En st.H []) :
 AWp P N m0 (.region id ops true) Q st:=AWp.draw hΓ hmix hN hst h
theorem Wo {O E C R G:Prop} (o:O) (e:E) (c:C) (k:R) (h:O→E→C→Box R→G:=by
 intro o e c k
 repeat' (first
  | ((fail_if_success clear hK);change AWp _ _ _ _ _ _;first|refine AWp.seq ?_|refine AWp.textO o tG_ok (by kernel_rfl) (fun K hK=>?_)|refine AWp.drawO o tG_ok mixed (by kernel_rfl) (by kernel_rfl) (fun K hK=>?_)|refine AWp.skip ?_|refine AWp.ret ?_|refine AWp.exit ?_|refine AWp.label ?_|refine AWp.block ?_)
  | (revert hK;intro hK;first
   | (with_reducible refine hK _ _ _ ?_;clear hK K)
   | (with_reducible refine hK _ _ _ ?_ ?_;(focus kernel_rfl);clear hK K)
   | ((with_reducible change CallS _ _ _ _ _ _);first|refine CallS.of (by first|exact c|(apply c<;>first|omega|assumption|(simp only[List.length_take,List.length_append,List.length_drop,List.length_map];omega))) ?_|refine CallS.of (by first|exact c.1|(apply c.1<;>first|omega|assumption|(simp only[List.length_take,List.length_append,List.length_drop,List.length_map];omega))) ?_|refine CallS.of (by first|exact c.2.1|(apply c.2.1<;>first|omega|assumption|(simp only[List.length_take,List.length_append,List.length_drop,List.length_map];omega))) ?_|refine CallS.of (by first|exact c.2.2.1|(apply c.2.2.1<;>first|omega|assumption|(simp only[List.length_take,List.length_append,List.length_drop,List.length_map];omega))) ?_|refine CallS.of (by first|exact c.2.2.2.1|(apply c.2.2.2.1<;>first|omega|assumption|(simp only[List.length_take,List.length_append,List.length_drop,List.length_map];omega))) ?_|refine CallS.of (by first|exact c.2.2.2.2.1|(apply c.2.2.2.2.1<;>first|omega|assumption|(simp only[List.length_take,List.length_append,List.length_drop,List.length_map];omega))) ?_|refine CallS.of (by first|exact c.2.2.2.2.2.1|(apply c.2.2.2.2.2.1<;>first|omega|assumption|(simp only[List.length_take,List.length_append,List.length_drop,List.length_map];omega))) ?_|refine CallS.of (by first|exact c.2.2.2.2.2.2.1|(apply c.2.2.2.2.2.2.1<;>first|omega|assumption|(simp only[List.length_take,List.length_append,List.length_drop,List.length_map];omega))) ?_|refine CallS.of (by first|exact c.2.2.2.2.2.2.2.1|(apply c.2.2.2.2.2.2.2.1<;>first|omega|assumption|(simp only[List.length_take,List.length_append,List.length_drop,List.length_map];omega))) ?_|refine CallS.of (by first|exact c.2.2.2.2.2.2.2.2.1|(apply c.2.2.2.2.2.2.2.2.1<;>first|omega|assumption|(simp only[List.length_take,List.length_append,List.length_drop,List.length_map];omega))) ?_|refine CallS.of (by first|exact c.2|(apply c.2<;>first|omega|assumption|(simp only[List.length_take,List.length_append,List.length_drop,List.length_map];omega))) ?_|refine CallS.of (by first|exact c.2.2|(apply c.2.2<;>first|omega|assumption|(simp only[List.length_take,List.length_append,List.length_drop,List.length_map];omega))) ?_|refine CallS.of (by first|exact c.2.2.2|(apply c.2.2.2<;>first|omega|assumption|(simp only[List.length_take,List.length_append,List.length_drop,List.length_map];omega))) ?_|refine CallS.of (by first|exact c.2.2.2.2|(apply c.2.2.2.2<;>first|omega|assumption|(simp only[List.length_take,List.length_append,List.length_drop,List.length_map];omega))) ?_|refine CallS.of (by first|exact c.2.2.2.2.2|(apply c.2.2.2.2.2<;>first|omega|assumption|(simp only[List.length_take,List.length_append,List.length_drop,List.length_map];omega))) ?_|refine CallS.of (by first|exact c.2.2.2.2.2.2|(apply c.2.2.2.2.2.2<;>first|omega|assumption|(simp only[List.length_take,List.length_append,List.length_drop,List.length_map];omega))) ?_|refine CallS.of (by first|exact c.2.2.2.2.2.2.2|(apply c.2.2.2.2.2.2.2<;>first|omega|assumption|(simp only[List.length_take,List.length_append,List.length_drop,List.length_map];omega))) ?_|refine CallS.of (by first|exact c.2.2.2.2.2.2.2.2|(apply c.2.2.2.2.2.2.2.2<;>first|omega|assumption|(simp only[List.length_take,List.length_append,List.length_drop,List.length_map];omega))) ?_|refine CallS.of (by first|exact c.2.2.2.2.2.2.2.2.2|(apply c.2.2.2.2.2.2.2.2.2<;>first|omega|assumption|(simp only[List.length_take,List.length_append,List.length_drop,List.length_map];omega))) ?_|refine CallS.ext (by first|exact c|(apply c<;>first|omega|assumption|(simp only[List.length_take,List.length_append,List.length_drop,List.length_map];omega))) ?_|refine CallS.ext (by first|exact c.1|(apply c.1<;>first|omega|assumption|(simp only[List.length_take,List.length_append,List.length_drop,List.length_map];omega))) ?_|refine CallS.ext (by first|exact c.2.1|(apply c.2.1<;>first|omega|assumption|(simp only[List.length_take,List.length_append,List.length_drop,List.length_map];omega))) ?_|refine CallS.ext (by first|exact c.2.2.1|(apply c.2.2.1<;>first|omega|assumption|(simp only[List.length_take,List.length_append,List.length_drop,List.length_map];omega))) ?_|refine CallS.ext (by first|exact c.2.2.2.1|(apply c.2.2.2.1<;>first|omega|assumption|(simp only[List.length_take,List.length_append,List.length_drop,List.length_map];omega))) ?_|refine CallS.ext (by first|exact c.2.2.2.2.1|(apply c.2.2.2.2.1<;>first|omega|assumption|(simp only[List.length_take,List.length_append,List.length_drop,List.length_map];omega))) ?_|refine CallS.ext (by first|exact c.2.2.2.2.2.1|(apply c.2.2.2.2.2.1<;>first|omega|assumption|(simp only[List.length_take,List.length_append,List.length_drop,List.length_map];omega))) ?_|refine CallS.ext (by first|exact c.2.2.2.2.2.2.1|(apply c.2.2.2.2.2.2.1<;>first|omega|assumption|(simp only[List.length_take,List.length_append,List.length_drop,List.length_map];omega))) ?_|refine CallS.ext (by first|exact c.2.2.2.2.2.2.2.1|(apply c.2.2.2.2.2.2.2.1<;>first|omega|assumption|(simp only[List.length_take,List.length_append,List.length_drop,List.length_map];omega))) ?_|refine CallS.ext (by first|exact c.2.2.2.2.2.2.2.2.1|(apply c.2.2.2.2.2.2.2.2.1<;>first|omega|assumption|(simp only[List.length_take,List.length_append,List.length_drop,List.length_map];omega))) ?_|refine CallS.ext (by first|exact c.2|(apply c.2<;>first|omega|assumption|(simp only[List.length_take,List.length_append,List.length_drop,List.length_map];omega))) ?_|refine CallS.ext (by first|exact c.2.2|(apply c.2.2<;>first|omega|assumption|(simp only[List.length_take,List.length_append,List.length_drop,List.length_map];omega))) ?_|refine CallS.ext (by first|exact c.2.2.2|(apply c.2.2.2<;>first|omega|assumption|(simp only[List.length_take,List.length_append,List.length_drop,List.length_map];omega))) ?_|refine CallS.ext (by first|exact c.2.2.2.2|(apply c.2.2.2.2<;>first|omega|assumption|(simp only[List.length_take,List.length_append,List.length_drop,List.length_map];omega))) ?_|refine CallS.ext (by first|exact c.2.2.2.2.2|(apply c.2.2.2.2.2<;>first|omega|assumption|(simp only[List.length_take,List.length_append,List.length_drop,List.length_map];omega))) ?_|refine CallS.ext (by first|exact c.2.2.2.2.2.2|(apply c.2.2.2.2.2.2<;>first|omega|assumption|(simp only[List.length_take,List.length_append,List.length_drop,List.length_map];omega))) ?_|refine CallS.ext (by first|exact c.2.2.2.2.2.2.2|(apply c.2.2.2.2.2.2.2<;>first|omega|assumption|(simp only[List.length_take,List.length_append,List.length_drop,List.length_map];omega))) ?_|refine CallS.ext (by first|exact c.2.2.2.2.2.2.2.2|(apply c.2.2.2.2.2.2.2.2<;>first|omega|assumption|(simp only[List.length_take,List.length_append,List.length_drop,List.length_map];omega))) ?_|refine CallS.ext (by first|exact c.2.2.2.2.2.2.2.2.2|(apply c.2.2.2.2.2.2.2.2.2<;>first|omega|assumption|(simp only[List.length_take,List.length_append,List.length_drop,List.length_map];omega))) ?_|refine CallS.of_if (val:=.top) (bo:=[]) (fun h=>by cases h) ?_)
   | (with_reducible refine And.intro ?_ ?_)
   | (simp (disch:=omega) only[↓reduceIte,Zo,backT,pos,idsB,idsC,nodup,live,makeSliceE,viewE,viewFE,appendUE,appendFE,capFE,copyE,copySrc,clearE,guardB,isNilOp,nilS,withTy,splice,lenE,appendE,sliceE,boundE,indexAddrE,indexE,buildE,fillE,buildSliceE,partsE,builtinE,minE,minI,convE,convHE,appendNE,capE,D.x,id_eq,eq_self,if_true,if_false,ne_eq,implies_true,Nat.reduceAdd,Nat.reduceMul,Nat.reduceSub,Nat.reduceEqDiff,Nat.reduceLT,Nat.reduceLeDiff,reduceCtorEq,Zp,forall_const,Nat.reduceBEq,Int.reduceEq,Int.reduceToNat,bne_self_eq_false,tyAll,oF_eq,e])
   | (first|omega|(intro hq;(try simp only[Za,ne_eq,Bool.not_not,Bool.and_true]at hq);first|omega|assumption|(simp_all;done))|(simp_all;done))
   | (simp[putRows,splice];omega)
   | (intro hq;(try simp only[Za,ne_eq,Bool.not_not,Bool.and_true]at hq);simp[putRows,splice];omega)
   | (intro (bn:Bool) hbn)))
 exact k.out):G:=h o e c ⟨k⟩
theorem An {a b:Prop} (x:a) (y:b):a∧b:=⟨x,y⟩
theorem Cc {R1 R2 G:Prop} (k1:R1) (k2:R2) (h:Box R1→Box R2→G:=by
 intro k1 k2
 (try change AWp _ _ _ _ _ _)
 refine AWp.cond (by exact rfl) ?_ ?_
 ·exact k1.out
 ·exact k2.out):G:=h ⟨k1⟩ ⟨k2⟩
theorem Ac {f:FuncId} {fn:Func} {c:Code} {bi:List Blk} {args:List D} {val:D} {bo:List Blk} (hf:Tryz.prog.funcs[f]?=some fn)
 (h:AWp Tryz.prog fn.ntmps bi.length c (finQ tG fn bi.length val bo) ⟨fun t=>args.getD t .top,fun i=>bi[i]?,bi.length⟩)
 (hb:fn.body=some c:=by exact rfl) (hname:(fn.name == "runtime.NumGoroutine")=false:=by kernel_rfl) (hlen:args.length≤fn.ntmps:=by simp):ACall Tryz.prog f bi args val bo :=
 acall_of tG_ok hf hb hname hlen h
theorem Fs {E R G:Prop} (e:E) (k:R) (h:E→Box R→G:=by
 intro e k
 change Fin _ _ _ _ _ _
 simp only[fe_all,id_eq,Nat.reduceLeDiff,↓reduceIte,Zx,Nat.reduceEqDiff,Nat.reduceAdd,if_true,if_false,reduceCtorEq,eq_self,Nat.reduceBEq,e,tyAll]
 exact k.out):G:=h e ⟨k⟩
theorem Lv {E G:Prop} (e:E) (h:Box E→G):G:=h ⟨e⟩
theorem Lw {E R G:Prop} (e:E) (k:R) (h:E→Box R→G:=by
 intro e k
 simp (disch:=omega) only[↓reduceIte,Zx,Nat.reduceEqDiff,Nat.reduceAdd,if_true,if_false,reduceCtorEq,eq_self,Nat.reduceBEq,Zp,forall_const,Nat.reduceBEq,Int.reduceEq,Int.reduceToNat,bne_self_eq_false,tyAll,e]
 all_goals (exact k.out)):G:=h e ⟨k⟩
theorem Fn {E1 E R G:Prop} (r:E1) (e:E) (k:R) (h:E1→E→Box R→G:=by
 intro r e k
 change Fin _ _ _ _ _ _
 simp only[fe_all,id_eq,Nat.reduceLeDiff,↓reduceIte,Zx,Nat.reduceEqDiff,Nat.reduceAdd,if_true,if_false,reduceCtorEq,eq_self,Nat.reduceBEq,tyAll,r]
 refine ⟨[],[],[],by kernel_rfl,?_,?_⟩<;>(simp (disch:=omega) only[↓reduceIte,Zx,Nat.reduceEqDiff,Nat.reduceAdd,if_true,if_false,reduceCtorEq,eq_self,Nat.reduceBEq,Zp,forall_const,Nat.reduceBEq,Int.reduceEq,Int.reduceToNat,bne_self_eq_false,tyAll,e];try omega)
 all_goals (exact k.out)):G:=h r e ⟨k⟩
namespace NO
structure Ord where
 id:ByteArray
 acc:ByteArray
 sym:ByteArray
 buy:Bool
 qty:Int
 price:Int
 done:Int
 op:Bool
instance :Inhabited Ord:=⟨⟨⟨#[]⟩,⟨#[]⟩,⟨#[]⟩,false,0,0,0,false⟩⟩
abbrev oC (o:Ord):List C:=[.v (.x (.string o.id)),.v (.x (.string o.acc)),.v (.x (.string o.sym)),.v (.x (.bool o.buy)),.v (.x (.int .i64 o.qty)),.v (.x (.int .i64 o.price)),.v (.x (.int .i64 o.done)),.v (.x (.bool o.op))]
abbrev oD (o:Ord):D:=.e (.a (oC o))
abbrev oR (l:List Ord):List (List V):=l.map fun o=>[V.x (.string o.id),V.x (.string o.acc),V.x (.string o.sym),V.x (.bool o.buy),V.x (.int .i64 o.qty),V.x (.int .i64 o.price),V.x (.int .i64 o.done),V.x (.bool o.op)]
theorem Zf (l:List Ord) (i:Nat):(l.map fun o=>[V.x (.string o.id),V.x (.string o.acc),V.x (.string o.sym),V.x (.bool o.buy),V.x (.int .i64 o.qty),V.x (.int .i64 o.price),V.x (.int .i64 o.done),V.x (.bool o.op)]).getD i
 [V.x (.string ⟨#[]⟩),V.x (.string ⟨#[]⟩),V.x (.string ⟨#[]⟩),V.x (.bool false),V.x (.int .i64 0),V.x (.int .i64 0),V.x (.int .i64 0),V.x (.bool false)] =
 [V.x (.string (l.getD i default).id),V.x (.string (l.getD i default).acc),V.x (.string (l.getD i default).sym),V.x (.bool (l.getD i default).buy),V.x (.int .i64 (l.getD i default).qty),V.x (.int .i64 (l.getD i default).price),V.x (.int .i64 (l.getD i default).done),V.x (.bool (l.getD i default).op)]:=by
 simp only[List.getD_eq_getElem?_getD,List.getElem?_map]
 cases l[i]?<;>rfl
abbrev osV (l:List Ord):V:=.s 8 (oR l)
abbrev osD (l:List Ord):D:=.e (.c (.v (osV l)))
abbrev SD (s:ByteArray):D:=.e (.c (.v (.x (.string s))))
def namedB (s:ByteArray):Bool:=!(s.data.toList == (⟨#[]⟩:ByteArray).data.toList) && decide ((s.size:Int)≤16)
def amountB (n:Int):Bool:=decide (0≤n) && decide (n≤1099511627776)
def mayB (o:Ord):Bool:=namedB o.id && namedB o.acc && namedB o.sym && amountB o.qty && amountB o.price && decide (0≤o.done) && decide (o.done≤o.qty)
def qOT11:=PLift.up (An @Zi (An @take_m (An @among2 @Zf)))
theorem named_c (s:ByteArray):ACall Tryz.prog 119 [] [SD s] (B (namedB s)) []:=by
 refine Ac Tryz.func119 ?_
 refine Wk qOT11.1 trivial ?_
 first|exact Fn @Tryz.results119 qOT11.1 trivial|refine Fn @Tryz.results119 qOT11.1 ?_
 rfl
theorem amount_c (n:Int):ACall Tryz.prog 120 [] [I n] (B (amountB n)) []:=by
 refine Ac Tryz.func120 ?_
 refine Wk qOT11.1 trivial ?_
 first|exact Fn @Tryz.results120 qOT11.1 trivial|refine Fn @Tryz.results120 qOT11.1 ?_
 rfl
theorem may_c (o:Ord):ACall Tryz.prog 50 [] [oD o] (B (mayB o)) []:=by
 refine Ac Tryz.func50 ?_
 refine Wk qOT11.1 (An @named_c @amount_c) ?_
 first|exact Fn @Tryz.results50 qOT11.1 trivial|refine Fn @Tryz.results50 qOT11.1 ?_
 rfl
end NO
namespace NO
theorem amountB_spec {n:Int}:amountB n=true↔0≤n∧n≤1099511627776:=by simp[amountB]
theorem mayB_spec {o:Ord} (h:mayB o=true):(0≤o.qty∧o.qty≤1099511627776)∧(0≤o.price∧o.price≤1099511627776)∧0≤o.done∧o.done≤o.qty:=by
 simp only[mayB,Bool.and_eq_true,decide_eq_true_eq,amountB_spec]at h
 exact ⟨h.1.1.1.2,h.1.1.2,h.1.2,h.2⟩
def leftI (o:Ord):Int:=if mayB o=true∧o.op=true then o.qty - o.done else 0
def qOT22:=PLift.up (An @may_c @amount_c)
def qOT21:=PLift.up (An @Zi (An @take_m (An @among2 @Zf)))
theorem Zs (o:Ord):ACall Tryz.prog 74 [] [oD o] (I (leftI o)) []:=by
 refine Ac Tryz.func74 ?_
 refine Wk qOT21.1 qOT22.1 ?_
 refine Cc ?_ ?_<;>intro hc<;>(try simp only[Za,ne_eq]at hc)
 ·refine Wk qOT21.1 qOT22.1 ?_
  have e:leftI o=0:=by rw[leftI,if_neg];rintro ⟨h1,h2⟩;simp[h1,h2]at hc
  rw[e]
  first|exact Fn @Tryz.results74 qOT21.1 trivial|refine Fn @Tryz.results74 qOT21.1 ?_
 ·have hm:=mayB_spec hc.1
  refine Wk qOT21.1 qOT22.1 ?_
  have e:leftI o=o.qty - o.done:=by rw[leftI,if_pos hc]
  rw[e]
  first|exact Fn @Tryz.results74 qOT21.1 trivial|refine Fn @Tryz.results74 qOT21.1 ?_
def fairB (o:Ord) (p:Int):Bool:=amountB p && (if o.buy then decide (p≤o.price) else decide (o.price≤p))
theorem Zu (o:Ord) (p:Int):ACall Tryz.prog 294 [] [oD o,I p] (B (fairB o p)) []:=by
 refine Ac Tryz.func294 ?_
 refine Wk qOT21.1 qOT22.1 ?_
 refine Cc ?_ ?_<;>intro hc<;>(try simp only[Za,ne_eq]at hc)
 ·refine Wk qOT21.1 qOT22.1 ?_
  have e:fairB o p=false:=by simp[fairB,hc]
  rw[e]
  first|exact Fn @Tryz.results294 qOT21.1 trivial|refine Fn @Tryz.results294 qOT21.1 ?_
 ·refine Wk qOT21.1 qOT22.1 ?_
  refine Cc ?_ ?_<;>intro hc<;>(try simp only[Za,ne_eq]at hc)
  ·refine Wk qOT21.1 qOT22.1 ?_
   have e:fairB o p=decide (p≤o.price):=by simp[fairB, *]
   rw[e]
   first|exact Fn @Tryz.results294 qOT21.1 trivial|refine Fn @Tryz.results294 qOT21.1 ?_
  ·refine Wk qOT21.1 qOT22.1 ?_
   have e:fairB o p=decide (o.price≤p):=by simp[fairB, *]
   rw[e]
   first|exact Fn @Tryz.results294 qOT21.1 trivial|refine Fn @Tryz.results294 qOT21.1 ?_
abbrev eqN (o:Ord) (id:ByteArray):Bool:=o.id.data.toList == id.data.toList
theorem place1_c (o:Ord) (id:ByteArray):ACall Tryz.prog 207 [] [oD o,.q [.x (.string id)]] (B (eqN o id)) []:=by
 refine Ac Tryz.func207 ?_
 refine Wk qOT21.1 qOT22.1 ?_
 first|exact Fn @Tryz.results207 qOT21.1 trivial|refine Fn @Tryz.results207 qOT21.1 ?_
def placeN (id:ByteArray):List Ord→Option Nat
 | []=>none
 | o::l=>if eqN o id then some 0 else (placeN id l).map (·+1)
def placeI (l:List Ord) (id:ByteArray):Int:=match placeN id l with
 | some i=>i
 | none=>-1
theorem placeN_none {id:ByteArray}:∀ {l:List Ord},(∀i,i<l.length→eqN (l.getD i default) id=false)→placeN id l=none
 | [],_=>rfl
 | o::l,h=>by
  have h0:=h 0 (by simp)
  simp only[List.getD_cons_zero]at h0
  rw[placeN,if_neg (by rw[h0];simp),placeN_none (l:=l) fun i hi=>by have:=h (i+1) (by simpa using hi);simpa using this]
  rfl
theorem placeN_some {id:ByteArray}:∀ {l:List Ord} {k:Nat},k<l.length→(∀i,i<k→eqN (l.getD i default) id=false)→eqN (l.getD k default) id=true→placeN id l=some k
 | [],k,h,_,_=>by simp at h
 | o::l,0,_,_,h=>by
  simp only[List.getD_cons_zero]at h
  rw[placeN,if_pos h]
 | o::l,k+1,hk,h,he=>by
  have h0:=h 0 (by omega)
  simp only[List.getD_cons_zero]at h0
  rw[placeN,if_neg (by rw[h0];simp),placeN_some (l:=l) (k:=k) (by simpa using hk) (fun i hi=>by have:=h (i+1) (by omega);simpa using this) (by simpa using he)]
  rfl
theorem placeN_spec {id:ByteArray}:∀ {l:List Ord} {k:Nat},placeN id l=some k→k<l.length∧(∀i,i<k→eqN (l.getD i default) id=false)∧eqN (l.getD k default) id=true
 | [],k,h=>by simp[placeN]at h
 | o::l,k,h=>by
  rw[placeN]at h
  split at h
  ·rename_i h0
   cases h
   exact ⟨by simp,fun i hi=>by omega,by simpa using h0⟩
  ·rename_i h0
   simp only[Option.map_eq_some_iff]at h
   obtain ⟨j,hj,rfl⟩:=h
   obtain ⟨h1,h2,h3⟩:=placeN_spec hj
   refine ⟨by simp;omega,fun i hi=>?_,by simpa using h3⟩
   cases i with
   | zero=>simpa using h0
   | succ i=>simpa using h2 i (by omega)
theorem placeN_spec0 {id:ByteArray}:∀ {l:List Ord},placeN id l=none→∀i,i<l.length→eqN (l.getD i default) id=false
 | [],_,i,hi=>by simp at hi
 | o::l,h,i,hi=>by
  rw[placeN]at h
  split at h
  ·cases h
  ·rename_i h0
   simp only[Option.map_eq_none_iff]at h
   cases i with
   | zero=>simpa using h0
   | succ i=>simpa using placeN_spec0 h i (by simpa using hi)
def qOT23:=PLift.up (An @may_c (An @amount_c @place1_c))
theorem indexFunc_c (l:List Ord) (id:ByteArray) (hl:l.length≤1000000):ACall Tryz.prog 126 [] [osD l,.e (.c (.v (.f 207 [[.x (.string id)]])))] (I (placeI l id)) []:=by
 refine Ac Tryz.func126 ?_
 refine Wk qOT21.1 qOT23.1 ?_
 refine AWp.loop (fun k:Nat=>mkSt [(0,osD l),(1,.e (.c (.v (.f 207 [[.x (.string id)]])))),(7,I l.length),(8,I k)] [] 0) (fun k=>k≤l.length∧∀i,i<k→eqN (l.getD i default) id=false) (fun k=>l.length - k) 0 ⟨Nat.zero_le _,fun i hi=>by omega⟩ (by refine Le.of (τ:=[]) (ν:=[]) (by kernel_rfl) ?_ ?_<;>((first|exact Lw qOT21.1 trivial|refine Lw qOT21.1 ?_);try omega)) fun k hk=>?_
 obtain ⟨hk,ho⟩:=hk
 refine Wk qOT21.1 qOT23.1 ?_
 refine Cc ?_ ?_<;>intro hc<;>(try simp only[Za,ne_eq]at hc)
 ·refine Wk qOT21.1 qOT23.1 ?_
  refine Cc ?_ ?_<;>intro hc<;>(try simp only[Za,ne_eq]at hc)
  ·refine Wk qOT21.1 qOT23.1 ?_
   have e:placeI l id=k:=by rw[placeI,placeN_some (k:=k) (by omega) ho (beq_iff_eq.2 hc)]
   rw[e]
   first|exact Fn @Tryz.results126 qOT21.1 trivial|refine Fn @Tryz.results126 qOT21.1 ?_
  ·refine Wk qOT21.1 qOT23.1 ?_
   refine Zb (k+1) ⟨by omega,fun i hi=>?_⟩ (by omega) (by refine Le.of (τ:=[]) (ν:=[]) (by kernel_rfl) ?_ ?_<;>((first|exact Lw qOT21.1 trivial|refine Lw qOT21.1 ?_);try omega))
   by_cases e:i=k
   ·subst e;simpa using hc
   ·exact ho i (by omega)
 ·refine Wk qOT21.1 qOT23.1 ?_
  have e:placeI l id=-1:=by rw[placeI,placeN_none fun i hi=>ho i (by omega)]
  rw[e]
  first|exact Fn @Tryz.results126 qOT21.1 trivial|refine Fn @Tryz.results126 qOT21.1 ?_
theorem placeI_lt (l:List Ord) (id:ByteArray):-1≤placeI l id∧placeI l id<l.length:=by
 unfold placeI
 split
 ·rename_i i h
  have:=(placeN_spec h).1
  omega
 ·omega
theorem place_c (l:List Ord) (id:ByteArray) (hl:l.length≤1000000):ACall Tryz.prog 157 [] [osD l,SD id] (I (placeI l id)) []:=by
 refine Ac Tryz.func157 ?_
 refine Wk qOT21.1 (An @may_c (An @amount_c (An @place1_c @indexFunc_c))) ?_
 first|exact Fn @Tryz.results157 qOT21.1 trivial|refine Fn @Tryz.results157 qOT21.1 ?_
def openI (l:List Ord) (id:ByteArray):Int:=if 0≤placeI l id∧(l.getD (placeI l id).toNat default).op=false then -1 else placeI l id
def qOT24:=PLift.up (An @may_c (An @amount_c (An @place1_c (An @indexFunc_c @place_c))))
theorem open_c (l:List Ord) (id:ByteArray) (hl:l.length≤1000000):ACall Tryz.prog 267 [] [osD l,SD id] (I (openI l id)) []:=by
 have hp:=placeI_lt l id
 refine Ac Tryz.func267 ?_
 refine Wk qOT21.1 qOT24.1 ?_
 refine Cc ?_ ?_<;>intro hc<;>(try simp only[Za,ne_eq]at hc)
 ·refine Wk qOT21.1 qOT24.1 ?_
  have e:openI l id=-1:=by rw[openI,if_pos];simpa using hc
  rw[e]
  first|exact Fn @Tryz.results267 qOT21.1 trivial|refine Fn @Tryz.results267 qOT21.1 ?_
 ·refine Wk qOT21.1 qOT24.1 ?_
  have e:openI l id=placeI l id:=by rw[openI,if_neg];rintro ⟨h1,h2⟩;rcases hc with h|h<;>simp_all<;>omega
  rw[e]
  first|exact Fn @Tryz.results267 qOT21.1 trivial|refine Fn @Tryz.results267 qOT21.1 ?_
def rightP (l:List Ord) (k:Nat):Prop:=∀i,i<k→mayB (l.getD i default)=true∧placeI (l.take i) (l.getD i default).id<0
open Classical in
noncomputable def rightB (l:List Ord):Bool:=decide (l.length≤64∧rightP l l.length)
theorem Zy {l:List Ord}:rightB l=true↔l.length≤64∧rightP l l.length:=by simp[rightB]
theorem right_c (l:List Ord):ACall Tryz.prog 100 [] [osD l] (B (rightB l)) []:=by
 refine Ac Tryz.func100 ?_
 refine Wk qOT21.1 qOT24.1 ?_
 refine Cc ?_ ?_<;>intro hc<;>(try simp only[Za,ne_eq]at hc)
 ·refine Wk qOT21.1 qOT24.1 ?_
  have e:rightB l=false:=by rw[←Bool.not_eq_true,Zy];omega
  rw[e]
  first|exact Fn @Tryz.results100 qOT21.1 trivial|refine Fn @Tryz.results100 qOT21.1 ?_
 ·refine Wk qOT21.1 qOT24.1 ?_
  refine AWp.loop (fun k:Nat=>mkSt [(0,osD l),(8,osD l),(9,I l.length),(10,I k)] [] 0) (fun k=>k≤l.length∧rightP l k) (fun k=>l.length - k) 0 ⟨Nat.zero_le _,fun i hi=>by omega⟩ (by refine Le.of (τ:=[]) (ν:=[]) (by kernel_rfl) ?_ ?_<;>((first|exact Lw qOT21.1 trivial|refine Lw qOT21.1 ?_);try omega)) fun k hk=>?_
  obtain ⟨hk,ho⟩:=hk
  refine Wk qOT21.1 qOT24.1 ?_
  refine Cc ?_ ?_<;>intro hc<;>(try simp only[Za,ne_eq]at hc)
  ·have hlen:(l.take k).length≤1000000:=by rw[List.length_take];omega
   refine Wk qOT21.1 qOT24.1 ?_
   refine Cc ?_ ?_<;>intro hc<;>(try simp only[Za,ne_eq]at hc)
   ·refine Wk qOT21.1 qOT24.1 ?_
    have e:rightB l=false:=by
     rw[←Bool.not_eq_true,Zy]
     rintro ⟨_,h⟩
     have h:=h k (by omega)
     rcases hc with h1|h1
     ·rw[h1]at h;exact absurd h.1 (by simp)
     ·omega
    rw[e]
    first|exact Fn @Tryz.results100 qOT21.1 trivial|refine Fn @Tryz.results100 qOT21.1 ?_
   ·refine Wk qOT21.1 qOT24.1 ?_
    refine Zb (k+1) ⟨by omega,fun i hi=>?_⟩ (by omega) (by refine Le.of (τ:=[]) (ν:=[]) (by kernel_rfl) ?_ ?_<;>((first|exact Lw qOT21.1 trivial|refine Lw qOT21.1 ?_);try omega))
    by_cases e:i=k
    ·subst e
     exact ⟨hc.1,by omega⟩
    ·exact ho i (by omega)
  ·refine Wk qOT21.1 qOT24.1 ?_
   have e:rightB l=true:=by rw[Zy];refine ⟨by omega,?_⟩;rw[show l.length=k by omega];exact ho
   rw[e]
   first|exact Fn @Tryz.results100 qOT21.1 trivial|refine Fn @Tryz.results100 qOT21.1 ?_
end NO
namespace NO
noncomputable def findS (l:List Ord) (id:ByteArray):Ord×Bool:=if rightB l=true∧0≤placeI l id then (l.getD (placeI l id).toNat default,true) else (default,false)
def qOT32:=PLift.up (An @right_c @place_c)
def qOT31:=PLift.up (An @Zi (An @take_m (An @among2 @Zf)))
theorem find_c (l:List Ord) (id:ByteArray) (r:Ord×Bool) (hr:findS l id=r) (hl:l.length≤1000000):ACall Tryz.prog 152 [] [osD l,SD id] (.t [.a (oC r.1),.c (.v (.x (.bool r.2)))]) []:=by
 have hp:=placeI_lt l id
 refine Ac Tryz.func152 ?_
 refine Wk qOT31.1 qOT32.1 ?_
 refine Cc ?_ ?_<;>intro hc<;>(try simp only[Za,ne_eq]at hc)
 ·refine Wk qOT31.1 qOT32.1 ?_
  have e:r=(default,false):=by rw[←hr,findS,if_neg];rw[hc];simp
  subst e
  first|exact Fn @Tryz.results152 qOT31.1 trivial|refine Fn @Tryz.results152 qOT31.1 ?_
  exact ⟨rfl,rfl,rfl,rfl,rfl,rfl,rfl,rfl⟩
 ·refine Wk qOT31.1 qOT32.1 ?_
  refine Cc ?_ ?_<;>intro hc<;>(try simp only[Za,ne_eq]at hc)
  ·refine Wk qOT31.1 qOT32.1 ?_
   have e:r=(default,false):=by rw[←hr,findS,if_neg];omega
   subst e
   first|exact Fn @Tryz.results152 qOT31.1 trivial|refine Fn @Tryz.results152 qOT31.1 ?_
   exact ⟨rfl,rfl,rfl,rfl,rfl,rfl,rfl,rfl⟩
  ·refine Wk qOT31.1 qOT32.1 ?_
   have e:r=(l.getD (placeI l id).toNat default,true):=by rw[←hr,findS,if_pos];exact ⟨by assumption,by omega⟩
   subst e
   first|exact Fn @Tryz.results152 qOT31.1 trivial|refine Fn @Tryz.results152 qOT31.1 ?_
theorem zOT31 {R G:Prop} (k:R) (h:Box R→G:=by
 intro k
 simp (disch:=omega) only[↓reduceIte,Zo,backT,pos,idsB,idsC,nodup,live,makeSliceE,viewE,viewFE,appendUE,appendFE,capFE,copyE,copySrc,clearE,guardB,isNilOp,nilS,withTy,splice,lenE,appendE,sliceE,boundE,indexAddrE,indexE,buildE,fillE,buildSliceE,partsE,builtinE,minE,minI,convE,convHE,appendNE,capE,D.x,id_eq,eq_self,if_true,if_false,ne_eq,implies_true,Nat.reduceAdd,Nat.reduceMul,Nat.reduceSub,Nat.reduceEqDiff,Nat.reduceLT,Nat.reduceLeDiff,reduceCtorEq,Nat.mul_one,Int.mul_one,nO_eq,Int.reduceToNat,oF_eq,Nat.reduceBEq,Bool.true_or,Bool.false_or,Bool.or_false,Z9,Zn,Zi,take_m,among2,Int.reduceEq,decide_false,Bool.false_eq_true,false_implies,forall_const,Bool.not_true,Bool.not_false,BEq.rfl,Zf,Zp,forall_const,Nat.reduceBEq,Int.reduceEq,bne_self_eq_false,true_and,tyAll]
 all_goals exact k.out):G:=h ⟨k⟩
theorem clone_c (l:List Ord) (h:l.length≤1000000):ACall Tryz.prog 85 [] [osD l] (.e (.c (.o 0 l.length))) [.row 8 (oR l)]:=by
 refine Ac Tryz.func85 ?_
 repeat' (first|((fail_if_success clear hK);change AWp _ _ _ _ _ _;first|refine AWp.seq ?_|refine AWp.text (own:=nO) tG_ok (by kernel_rfl) (fun K hK=>?_)|refine AWp.draw (own:=nO) tG_ok mixed (by kernel_rfl) (by kernel_rfl) (fun K hK=>?_)|refine AWp.skip ?_|refine AWp.ret ?_|refine AWp.exit ?_|refine AWp.label ?_|refine AWp.block ?_)|(revert hK;intro hK;first|(with_reducible refine hK _ _ _ ?_;clear hK K)|(with_reducible refine hK _ _ _ ?_ ?_;(focus kernel_rfl);clear hK K)|((with_reducible change CallS _ _ _ _ _ _);(first|refine CallS.of (right_c _) ?_|refine CallS.of (place_c _ _ (by omega)) ?_))|(with_reducible refine And.intro ?_ ?_)|((first|exact zOT31 trivial|refine zOT31 ?_))|(first|omega|(intro hq;(try simp only[Za,ne_eq,Bool.not_not,Bool.and_true]at hq);first|omega|assumption|(simp_all;done))|(simp_all;done))|(intro (bn:Bool) hbn)))
 refine Cc ?_ ?_<;>intro hc<;>(try simp only[Za,ne_eq]at hc)
 ·repeat' (first|((fail_if_success clear hK);change AWp _ _ _ _ _ _;first|refine AWp.seq ?_|refine AWp.text (own:=nO) tG_ok (by kernel_rfl) (fun K hK=>?_)|refine AWp.draw (own:=nO) tG_ok mixed (by kernel_rfl) (by kernel_rfl) (fun K hK=>?_)|refine AWp.skip ?_|refine AWp.ret ?_|refine AWp.exit ?_|refine AWp.label ?_|refine AWp.block ?_)|(revert hK;intro hK;first|(with_reducible refine hK _ _ _ ?_;clear hK K)|(with_reducible refine hK _ _ _ ?_ ?_;(focus kernel_rfl);clear hK K)|((with_reducible change CallS _ _ _ _ _ _);(first|refine CallS.of (right_c _) ?_|refine CallS.of (place_c _ _ (by omega)) ?_))|(with_reducible refine And.intro ?_ ?_)|((first|exact zOT31 trivial|refine zOT31 ?_))|(first|omega|(intro hq;(try simp only[Za,ne_eq,Bool.not_not,Bool.and_true]at hq);first|omega|assumption|(simp_all;done))|(simp_all;done))|(intro (bn:Bool) hbn)))
  subst hc
  have e:l=[]:=by simpa using hbn rfl
  subst e
  refine Fs @Tryz.results85 ?_
  refine ⟨[],[],[0],by kernel_rfl,?_,?_⟩<;>((first|exact Lw qOT31.1 trivial|refine Lw qOT31.1 ?_);try rfl)
 ·repeat' (first|((fail_if_success clear hK);change AWp _ _ _ _ _ _;first|refine AWp.seq ?_|refine AWp.text (own:=nO) tG_ok (by kernel_rfl) (fun K hK=>?_)|refine AWp.draw (own:=nO) tG_ok mixed (by kernel_rfl) (by kernel_rfl) (fun K hK=>?_)|refine AWp.skip ?_|refine AWp.ret ?_|refine AWp.exit ?_|refine AWp.label ?_|refine AWp.block ?_)|(revert hK;intro hK;first|(with_reducible refine hK _ _ _ ?_;clear hK K)|(with_reducible refine hK _ _ _ ?_ ?_;(focus kernel_rfl);clear hK K)|((with_reducible change CallS _ _ _ _ _ _);(first|refine CallS.of (right_c _) ?_|refine CallS.of (place_c _ _ (by omega)) ?_))|(with_reducible refine And.intro ?_ ?_)|((first|exact zOT31 trivial|refine zOT31 ?_))|(first|omega|(intro hq;(try simp only[Za,ne_eq,Bool.not_not,Bool.and_true]at hq);first|omega|assumption|(simp_all;done))|(simp_all;done))|(intro (bn:Bool) hbn)))
  refine Fs @Tryz.results85 ?_
  refine ⟨[320],[(0,320)],[],by kernel_rfl,?_,?_⟩<;>((first|exact Lw qOT31.1 trivial|refine Lw qOT31.1 ?_);try omega)
end NO
namespace NO
theorem openI_lt (l:List Ord) (id:ByteArray):-1≤openI l id∧openI l id<l.length:=by
 have:=placeI_lt l id
 unfold openI
 split<;>omega
theorem getD_oRn (l:List Ord) (i:Nat) (h:i<l.length):(l.map fun o=>[V.x (.string o.id),V.x (.string o.acc),V.x (.string o.sym),V.x (.bool o.buy),V.x (.int .i64 o.qty),V.x (.int .i64 o.price),V.x (.int .i64 o.done),V.x (.bool o.op)]).getD i [] =
 [V.x (.string (l.getD i default).id),V.x (.string (l.getD i default).acc),V.x (.string (l.getD i default).sym),V.x (.bool (l.getD i default).buy),V.x (.int .i64 (l.getD i default).qty),V.x (.int .i64 (l.getD i default).price),V.x (.int .i64 (l.getD i default).done),V.x (.bool (l.getD i default).op)]:=by
 simp[List.getD_eq_getElem?_getD,h]
abbrev rowO (o:Ord):List V:=[V.x (.string o.id),V.x (.string o.acc),V.x (.string o.sym),V.x (.bool o.buy),V.x (.int .i64 o.qty),V.x (.int .i64 o.price),V.x (.int .i64 o.done),V.x (.bool o.op)]
theorem app_row (l:List Ord) (b:Ord) (n:Nat) (hn:l.length=n):oR (l++[b])=List.take (n+1) (List.take n (l.map rowO)++[rowO b])∧n+1≤(List.take n (l.map rowO)++[rowO b]).length:=by
 subst hn
 rw[List.take_of_length_le (l:=l.map rowO) (by simp),List.take_of_length_le (by simp)]
 exact ⟨by simp,by simp⟩
theorem set_app (l:List Ord) (i:Nat) (a b:Ord):oR (l.set i a++[b])=List.take (l.length+1) (List.take l.length ((l.map rowO).set i (rowO a))++[rowO b])∧l.length+1≤(List.take l.length ((l.map rowO).set i (rowO a))++[rowO b]).length:=by
 rw[←List.map_set]
 exact app_row (l.set i a) b l.length (by simp)
def chO (o:Ord) (id:ByteArray) (qty price:Int):Ord:=⟨id,o.acc,o.sym,o.buy,qty,price,o.done,decide (o.done<qty)⟩
def shut (o:Ord):Ord:=⟨o.id,o.acc,o.sym,o.buy,o.qty,o.price,o.done,false⟩
noncomputable def changeS (l:List Ord) (old id:ByteArray) (qty price:Int):List Ord×Int :=
 if rightB l=false then (l,1)
 else if openI l old<0 then (l,6)
 else if mayB (chO (l.getD (openI l old).toNat default) id qty price)=false then (l,1)
 else if 0≤placeI l id then (l,7)
 else if 64≤l.length then (l,5)
 else (l.set (openI l old).toNat (shut (l.getD (openI l old).toNat default))++[chO (l.getD (openI l old).toNat default) id qty price],0)
abbrev resD (r:List Ord×Int):D:=.t [.c (.v (osV r.1)),.c (.v (vI r.2))]
def qOT42:=PLift.up (An @clone_c (An @right_c (An @place_c @open_c)))
def qOT41:=PLift.up (An @Zi (An @take_m (An @among2 (An @Zf @getD_oRn))))
theorem change_c (l:List Ord) (old id:ByteArray) (qty price:Int) (r:List Ord×Int) (hr:changeS l old id qty price=r) (h:l.length≤1000000) :
 ACall Tryz.prog 266 [] [osD l,SD old,SD id,I qty,I price] (resD r) []:=by
 have hp:=placeI_lt l id
 have ho:=openI_lt l old
 refine Ac Tryz.func266 ?_
 refine Wk qOT41.1 (An (fun u1 u2 u3 u4 u5 u6 u7 u8=>may_c ⟨u1,u2,u3,u4,u5,u6,u7,u8⟩) qOT42.1) ?_
 refine Cc ?_ ?_<;>intro hc<;>(try simp only[Za,ne_eq]at hc)
 ·refine Wk qOT41.1 (An (fun u1 u2 u3 u4 u5 u6 u7 u8=>may_c ⟨u1,u2,u3,u4,u5,u6,u7,u8⟩) qOT42.1) ?_
  have e:r=(l,1):=by rw[←hr,changeS,if_pos hc]
  subst e
  first|exact Fn @Tryz.results266 qOT41.1 trivial|refine Fn @Tryz.results266 qOT41.1 ?_
 ·refine Wk qOT41.1 (An (fun u1 u2 u3 u4 u5 u6 u7 u8=>may_c ⟨u1,u2,u3,u4,u5,u6,u7,u8⟩) qOT42.1) ?_
  refine Cc ?_ ?_<;>intro hc<;>(try simp only[Za,ne_eq]at hc)
  ·refine Wk qOT41.1 (An (fun u1 u2 u3 u4 u5 u6 u7 u8=>may_c ⟨u1,u2,u3,u4,u5,u6,u7,u8⟩) qOT42.1) ?_
   have e:r=(l,6):=by rw[←hr,changeS,if_neg (by simpa using ‹rightB l=true›),if_pos hc]
   subst e
   first|exact Fn @Tryz.results266 qOT41.1 trivial|refine Fn @Tryz.results266 qOT41.1 ?_
  ·have hR:¬rightB l=false:=by simpa using ‹rightB l=true›
   have hO:¬openI l old<0:=hc
   refine Wk qOT41.1 (An (fun u1 u2 u3 u4 u5 u6 u7 u8=>may_c ⟨u1,u2,u3,u4,u5,u6,u7,u8⟩) qOT42.1) ?_
   refine Cc ?_ ?_<;>intro hc<;>(try simp only[Za,ne_eq]at hc)
   ·have hc':mayB (chO (l.getD (openI l old).toNat default) id qty price)=false:=hc
    refine Wk qOT41.1 (An (fun u1 u2 u3 u4 u5 u6 u7 u8=>may_c ⟨u1,u2,u3,u4,u5,u6,u7,u8⟩) qOT42.1) ?_
    have e:r=(l,1):=by rw[←hr,changeS,if_neg hR,if_neg hO,if_pos hc']
    subst e
    first|exact Fn @Tryz.results266 qOT41.1 trivial|refine Fn @Tryz.results266 qOT41.1 ?_
   ·have hM:¬mayB (chO (l.getD (openI l old).toNat default) id qty price)=false:=by
     have hc':mayB (chO (l.getD (openI l old).toNat default) id qty price)=true:=hc
     rw[hc'];simp
    refine Wk qOT41.1 (An (fun u1 u2 u3 u4 u5 u6 u7 u8=>may_c ⟨u1,u2,u3,u4,u5,u6,u7,u8⟩) qOT42.1) ?_
    refine Cc ?_ ?_<;>intro hc<;>(try simp only[Za,ne_eq]at hc)
    ·refine Wk qOT41.1 (An (fun u1 u2 u3 u4 u5 u6 u7 u8=>may_c ⟨u1,u2,u3,u4,u5,u6,u7,u8⟩) qOT42.1) ?_
     have e:r=(l,7):=by rw[←hr,changeS,if_neg hR,if_neg hO,if_neg hM,if_pos hc]
     subst e
     first|exact Fn @Tryz.results266 qOT41.1 trivial|refine Fn @Tryz.results266 qOT41.1 ?_
    ·refine Wk qOT41.1 (An (fun u1 u2 u3 u4 u5 u6 u7 u8=>may_c ⟨u1,u2,u3,u4,u5,u6,u7,u8⟩) qOT42.1) ?_
     refine Cc ?_ ?_<;>intro hc<;>(try simp only[Za,ne_eq]at hc)
     ·refine Wk qOT41.1 (An (fun u1 u2 u3 u4 u5 u6 u7 u8=>may_c ⟨u1,u2,u3,u4,u5,u6,u7,u8⟩) qOT42.1) ?_
      have e:r=(l,5):=by rw[←hr,changeS,if_neg hR,if_neg hO,if_neg hM,if_neg (by assumption),if_pos (by omega)]
      subst e
      first|exact Fn @Tryz.results266 qOT41.1 trivial|refine Fn @Tryz.results266 qOT41.1 ?_
     ·refine Wk qOT41.1 (An (fun u1 u2 u3 u4 u5 u6 u7 u8=>may_c ⟨u1,u2,u3,u4,u5,u6,u7,u8⟩) qOT42.1) ?_
      have e:r=(l.set (openI l old).toNat (shut (l.getD (openI l old).toNat default))++[chO (l.getD (openI l old).toNat default) id qty price],0):=by
       rw[←hr,changeS,if_neg hR,if_neg hO,if_neg hM,if_neg (by assumption),if_neg (by omega)]
      subst e
      first|exact Fn @Tryz.results266 qOT41.1 trivial|refine Fn @Tryz.results266 qOT41.1 ?_
      exact set_app l _ (shut (l.getD (openI l old).toNat default)) (chO (l.getD (openI l old).toNat default) id qty price)
end NO
namespace NO
theorem getD_sO (f:Ord→List V) (l:List Ord) (i:Nat) (x d:List V) (h:i<l.length):((l.map f).set i x).getD i d=x:=by
 simp[List.getD_eq_getElem?_getD,h]
theorem rowAt_sO (f:Ord→List V) (l:List Ord) (i:Nat) (x:List V) (ty:Ty) (off:Nat) (h:i<l.length):rowAt ty ((l.map f).set i x) i off=x.drop off:=by
 unfold rowAt
 rw[List.getElem?_set_self (by simpa using h)]
theorem set_row (l:List Ord) (i:Nat) (a:Ord):oR (l.set i a)=List.take l.length ((l.map rowO).set i (rowO a))∧l.length≤((l.map rowO).set i (rowO a)).length:=by
 rw[←List.map_set,List.take_of_length_le (by simp)]
 exact ⟨rfl,by simp⟩
theorem app_row0 (l:List Ord) (b:Ord):oR (l++[b])=List.take (l.length+1) (l.map rowO++[rowO b])∧l.length+1≤(l.map rowO++[rowO b]).length:=by
 have:=app_row l b l.length rfl
 rwa [List.take_of_length_le (l:=l.map rowO) (by simp)]at this
def nwO (o:Ord):Ord:=⟨o.id,o.acc,o.sym,o.buy,o.qty,o.price,0,true⟩
noncomputable def newS (l:List Ord) (o:Ord):List Ord×Int :=
 if rightB l=false∨mayB (nwO o)=false then (l,1)
 else if 0≤placeI l o.id then (l,7)
 else if 64≤l.length then (l,5)
 else (l++[nwO o],0)
def qOT52:=PLift.up (An @clone_c (An @right_c (An @place_c @open_c)))
def qOT51:=PLift.up (An @Zi (An @take_m (An @among2 (An @Zf (An @getD_oRn (An @getD_sO (An @rowAt_sO @List.set_set.{0})))))))
theorem new_c (l:List Ord) (o:Ord) (r:List Ord×Int) (hr:newS l o=r) (h:l.length≤1000000):ACall Tryz.prog 226 [] [osD l,oD o] (resD r) []:=by
 have hp:=placeI_lt l o.id
 refine Ac Tryz.func226 ?_
 refine Wk qOT51.1 (An (may_c (nwO o)) (An (fun u1=>Zs (l.getD u1 default)) (An (fun u1 u2=>Zu (l.getD u1 default) u2) qOT52.1))) ?_
 refine Cc ?_ ?_<;>intro hc<;>(try simp only[Za,ne_eq]at hc)
 ·refine Wk qOT51.1 (An (may_c (nwO o)) (An (fun u1=>Zs (l.getD u1 default)) (An (fun u1 u2=>Zu (l.getD u1 default) u2) qOT52.1))) ?_
  have e:r=(l,1):=by rw[←hr,newS,if_pos hc]
  subst e
  first|exact Fn @Tryz.results226 qOT51.1 trivial|refine Fn @Tryz.results226 qOT51.1 ?_
 ·have hR:¬(rightB l=false∨mayB (nwO o)=false):=by
   have hc':rightB l=true∧mayB (nwO o)=true:=hc
   rw[hc'.1,hc'.2];simp
  refine Wk qOT51.1 (An (may_c (nwO o)) (An (fun u1=>Zs (l.getD u1 default)) (An (fun u1 u2=>Zu (l.getD u1 default) u2) qOT52.1))) ?_
  refine Cc ?_ ?_<;>intro hc<;>(try simp only[Za,ne_eq]at hc)
  ·refine Wk qOT51.1 (An (may_c (nwO o)) (An (fun u1=>Zs (l.getD u1 default)) (An (fun u1 u2=>Zu (l.getD u1 default) u2) qOT52.1))) ?_
   have e:r=(l,7):=by rw[←hr,newS,if_neg hR,if_pos hc]
   subst e
   first|exact Fn @Tryz.results226 qOT51.1 trivial|refine Fn @Tryz.results226 qOT51.1 ?_
  ·refine Wk qOT51.1 (An (may_c (nwO o)) (An (fun u1=>Zs (l.getD u1 default)) (An (fun u1 u2=>Zu (l.getD u1 default) u2) qOT52.1))) ?_
   refine Cc ?_ ?_<;>intro hc<;>(try simp only[Za,ne_eq]at hc)
   ·refine Wk qOT51.1 (An (may_c (nwO o)) (An (fun u1=>Zs (l.getD u1 default)) (An (fun u1 u2=>Zu (l.getD u1 default) u2) qOT52.1))) ?_
    have e:r=(l,5):=by rw[←hr,newS,if_neg hR,if_neg (by assumption),if_pos (by omega)]
    subst e
    first|exact Fn @Tryz.results226 qOT51.1 trivial|refine Fn @Tryz.results226 qOT51.1 ?_
   ·refine Wk qOT51.1 (An (may_c (nwO o)) (An (fun u1=>Zs (l.getD u1 default)) (An (fun u1 u2=>Zu (l.getD u1 default) u2) qOT52.1))) ?_
    have e:r=(l++[nwO o],0):=by rw[←hr,newS,if_neg hR,if_neg (by assumption),if_neg (by omega)]
    subst e
    first|exact Fn @Tryz.results226 qOT51.1 trivial|refine Fn @Tryz.results226 qOT51.1 ?_
    exact app_row0 l (nwO o)
noncomputable def closeS (l:List Ord) (id:ByteArray):List Ord×Int :=
 if rightB l=false then (l,1)
 else if openI l id<0 then (l,6)
 else (l.set (openI l id).toNat (shut (l.getD (openI l id).toNat default)),0)
theorem close_c (l:List Ord) (id:ByteArray) (r:List Ord×Int) (hr:closeS l id=r) (h:l.length≤1000000):ACall Tryz.prog 230 [] [osD l,SD id] (resD r) []:=by
 have ho:=openI_lt l id
 refine Ac Tryz.func230 ?_
 refine Wk qOT51.1 (An (fun u1=>Zs (l.getD u1 default)) (An (fun u1 u2=>Zu (l.getD u1 default) u2) qOT52.1)) ?_
 refine Cc ?_ ?_<;>intro hc<;>(try simp only[Za,ne_eq]at hc)
 ·refine Wk qOT51.1 (An (fun u1=>Zs (l.getD u1 default)) (An (fun u1 u2=>Zu (l.getD u1 default) u2) qOT52.1)) ?_
  have e:r=(l,1):=by rw[←hr,closeS,if_pos hc]
  subst e
  first|exact Fn @Tryz.results230 qOT51.1 trivial|refine Fn @Tryz.results230 qOT51.1 ?_
 ·refine Wk qOT51.1 (An (fun u1=>Zs (l.getD u1 default)) (An (fun u1 u2=>Zu (l.getD u1 default) u2) qOT52.1)) ?_
  refine Cc ?_ ?_<;>intro hc<;>(try simp only[Za,ne_eq]at hc)
  ·refine Wk qOT51.1 (An (fun u1=>Zs (l.getD u1 default)) (An (fun u1 u2=>Zu (l.getD u1 default) u2) qOT52.1)) ?_
   have e:r=(l,6):=by rw[←hr,closeS,if_neg (by simpa using ‹rightB l=true›),if_pos hc]
   subst e
   first|exact Fn @Tryz.results230 qOT51.1 trivial|refine Fn @Tryz.results230 qOT51.1 ?_
  ·have hR:¬rightB l=false:=by simpa using ‹rightB l=true›
   refine Wk qOT51.1 (An (fun u1=>Zs (l.getD u1 default)) (An (fun u1 u2=>Zu (l.getD u1 default) u2) qOT52.1)) ?_
   have e:r=(l.set (openI l id).toNat (shut (l.getD (openI l id).toNat default)),0):=by rw[←hr,closeS,if_neg hR,if_neg hc]
   subst e
   first|exact Fn @Tryz.results230 qOT51.1 trivial|refine Fn @Tryz.results230 qOT51.1 ?_
   exact set_row l _ (shut (l.getD (openI l id).toNat default))
def flO (o:Ord) (q:Int):Ord:=⟨o.id,o.acc,o.sym,o.buy,o.qty,o.price,o.done+q,decide (o.done+q<o.qty)⟩
noncomputable def fillS (l:List Ord) (id:ByteArray) (qty price:Int):List Ord×Int :=
 if rightB l=false then (l,1)
 else if openI l id<0 then (l,6)
 else if qty<1∨leftI (l.getD (openI l id).toNat default)<qty then (l,1)
 else if fairB (l.getD (openI l id).toNat default) price=false then (l,9)
 else (l.set (openI l id).toNat (flO (l.getD (openI l id).toNat default) qty),0)
theorem leftI_le (o:Ord):leftI o≤1099511627776∧0≤leftI o∧(0<leftI o→0≤o.done∧o.done≤1099511627776):=by
 unfold leftI
 split
 ·rename_i h
  have:=mayB_spec h.1
  omega
 ·omega
theorem fill_c (l:List Ord) (id:ByteArray) (qty price:Int) (r:List Ord×Int) (hr:fillS l id qty price=r) (h:l.length≤1000000):ACall Tryz.prog 265 [] [osD l,SD id,I qty,I price] (resD r) []:=by
 have ho:=openI_lt l id
 have hle:=leftI_le (l.getD (openI l id).toNat default)
 refine Ac Tryz.func265 ?_
 refine Wk qOT51.1 (An (fun u1=>Zs (l.getD u1 default)) (An (fun u1 u2=>Zu (l.getD u1 default) u2) qOT52.1)) ?_
 refine Cc ?_ ?_<;>intro hc<;>(try simp only[Za,ne_eq]at hc)
 ·refine Wk qOT51.1 (An (fun u1=>Zs (l.getD u1 default)) (An (fun u1 u2=>Zu (l.getD u1 default) u2) qOT52.1)) ?_
  have e:r=(l,1):=by rw[←hr,fillS,if_pos hc]
  subst e
  first|exact Fn @Tryz.results265 qOT51.1 trivial|refine Fn @Tryz.results265 qOT51.1 ?_
 ·refine Wk qOT51.1 (An (fun u1=>Zs (l.getD u1 default)) (An (fun u1 u2=>Zu (l.getD u1 default) u2) qOT52.1)) ?_
  refine Cc ?_ ?_<;>intro hc<;>(try simp only[Za,ne_eq]at hc)
  ·refine Wk qOT51.1 (An (fun u1=>Zs (l.getD u1 default)) (An (fun u1 u2=>Zu (l.getD u1 default) u2) qOT52.1)) ?_
   have e:r=(l,6):=by rw[←hr,fillS,if_neg (by simpa using ‹rightB l=true›),if_pos hc]
   subst e
   first|exact Fn @Tryz.results265 qOT51.1 trivial|refine Fn @Tryz.results265 qOT51.1 ?_
  ·have hR:¬rightB l=false:=by simpa using ‹rightB l=true›
   have hO:¬openI l id<0:=hc
   refine Wk qOT51.1 (An (fun u1=>Zs (l.getD u1 default)) (An (fun u1 u2=>Zu (l.getD u1 default) u2) qOT52.1)) ?_
   refine Cc ?_ ?_<;>intro hc<;>(try simp only[Za,ne_eq]at hc)
   ·refine Wk qOT51.1 (An (fun u1=>Zs (l.getD u1 default)) (An (fun u1 u2=>Zu (l.getD u1 default) u2) qOT52.1)) ?_
    have e:r=(l,1):=by rw[←hr,fillS,if_neg hR,if_neg hO,if_pos (by omega)]
    subst e
    first|exact Fn @Tryz.results265 qOT51.1 trivial|refine Fn @Tryz.results265 qOT51.1 ?_
   ·have hQ:¬(qty<1∨leftI (l.getD (openI l id).toNat default)<qty):=by omega
    refine Wk qOT51.1 (An (fun u1=>Zs (l.getD u1 default)) (An (fun u1 u2=>Zu (l.getD u1 default) u2) qOT52.1)) ?_
    refine Cc ?_ ?_<;>intro hc<;>(try simp only[Za,ne_eq]at hc)
    ·refine Wk qOT51.1 (An (fun u1=>Zs (l.getD u1 default)) (An (fun u1 u2=>Zu (l.getD u1 default) u2) qOT52.1)) ?_
     have e:r=(l,9):=by rw[←hr,fillS,if_neg hR,if_neg hO,if_neg hQ,if_pos hc]
     subst e
     first|exact Fn @Tryz.results265 qOT51.1 trivial|refine Fn @Tryz.results265 qOT51.1 ?_
    ·refine Wk qOT51.1 (An (fun u1=>Zs (l.getD u1 default)) (An (fun u1 u2=>Zu (l.getD u1 default) u2) qOT52.1)) ?_
     have e:r=(l.set (openI l id).toNat (flO (l.getD (openI l id).toNat default) qty),0):=by rw[←hr,fillS,if_neg hR,if_neg hO,if_neg hQ,if_neg (by rw[hc];simp)]
     subst e
     first|exact Fn @Tryz.results265 qOT51.1 trivial|refine Fn @Tryz.results265 qOT51.1 ?_
     exact set_row l _ (flO (l.getD (openI l id).toNat default) qty)
end NO
end Eng
end Go.Proofs.YtgenjpingdkmgaaGreatDoor
