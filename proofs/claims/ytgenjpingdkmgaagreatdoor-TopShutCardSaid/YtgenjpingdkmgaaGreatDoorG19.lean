/- Contracts of functions that this seat's law calls. No condition. -/
import Derived.Shelf.Strconv.Itoa4
import Derived.Shelf.Pu.ParseUintPublic10
import Derived.Lib.ParseIntB
import Derived.Lib.ItoaNum
import Derived.Lib.AppendIntMem
import Derived.Tactics
import Derived.Tactics2
import Derived.Lib.Walk
import Derived.Lib.Hide
import Derived.Laws.Strings3
import Derived.Laws.Closers25
import Derived.Laws.Closers25b
import Derived.BigCall
import Derived.BigGuard
import Derived.Lib.ItoaLen
import Derived.Test.YtgenjpingdkmgaaGreatDoorG16
set_option maxRecDepth 100000
set_option linter.unusedSimpArgs false
set_option linter.unusedVariables false
open Go.Proofs.Tryz
namespace Go.Proofs.YtgenjpingdkmgaaGreatDoor
def layFi_ren:Go.Shelf.Ren:=⟨fun|173=>202|246=>248|283=>283|284=>284|285=>285|286=>286|129=>172|317=>310|318=>311|319=>312|320=>313|337=>334|338=>335|n=>n,fun|2=>2|3=>3|9=>9|4=>4|171=>380|0=>0|53=>209|37=>24|5=>5|173=>382|212=>396|51=>246|20=>20|213=>397|46=>192|232=>426|233=>427|n=>n,fun|17=>3|18=>8|19=>9|n=>n⟩
theorem layFi:LaysM.n173 prog layFi_ren where
 mixed:=by kernel_rfl
 f129:=func172.trans (congrArg some (by kernel_rfl))
 f173:=func202.trans (congrArg some (by kernel_rfl))
 f246:=func248.trans (congrArg some (by kernel_rfl))
 f283:=func283.trans (congrArg some (by kernel_rfl))
 f284:=func284.trans (congrArg some (by kernel_rfl))
 f285:=func285.trans (congrArg some (by kernel_rfl))
 f286:=func286.trans (congrArg some (by kernel_rfl))
 f317:=func310.trans (congrArg some (by kernel_rfl))
 f318:=func311.trans (congrArg some (by kernel_rfl))
 f319:=func312.trans (congrArg some (by kernel_rfl))
 f320:=func313.trans (congrArg some (by kernel_rfl))
 f337:=func334.trans (congrArg some (by kernel_rfl))
 f338:=func335.trans (congrArg some (by kernel_rfl))
 t0:=underlying0
 a0:=isAgg0
 z0:=sizeOf0
 v0:=zeroValue0
 t2:=underlying2
 a2:=isAgg2
 z2:=sizeOf2
 v2:=zeroValue2
 t3:=underlying3
 a3:=isAgg3
 z3:=sizeOf3
 v3:=zeroValue3
 t4:=underlying4
 a4:=isAgg4
 z4:=sizeOf4
 v4:=zeroValue4
 t5:=underlying5
 a5:=isAgg5
 z5:=sizeOf5
 v5:=zeroValue5
 t9:=underlying9
 a9:=isAgg9
 z9:=sizeOf9
 v9:=zeroValue9
 t20:=underlying20
 a20:=isAgg20
 z20:=sizeOf20
 v20:=zeroValue20
 t37:=underlying24
 a37:=isAgg24
 z37:=sizeOf24
 v37:=zeroValue24
 t46:=underlying192
 a46:=isAgg192
 z46:=sizeOf192
 v46:=zeroValue192
 t51:=underlying246
 a51:=isAgg246
 z51:=sizeOf246
 v51:=zeroValue246
 t53:=underlying209
 a53:=isAgg209
 z53:=sizeOf209
 v53:=zeroValue209
 t171:=underlying380
 a171:=isAgg380
 z171:=sizeOf380
 v171:=zeroValue380
 t173:=underlying382
 a173:=isAgg382
 z173:=sizeOf382
 v173:=zeroValue382
 t212:=underlying396
 a212:=isAgg396
 z212:=sizeOf396
 v212:=zeroValue396
 t213:=underlying397
 a213:=isAgg397
 z213:=sizeOf397
 t232:=underlying426
 a232:=isAgg426
 z232:=sizeOf426
 v232:=zeroValue426
 t233:=underlying427
 a233:=isAgg427
 z233:=sizeOf427
 v233:=zeroValue427
 g17:=by kernel_rfl
 g18:=by kernel_rfl
 g19:=by kernel_rfl
 i0:=by kernel_rfl
 i2:=by kernel_rfl
 i3:=by kernel_rfl
 i4:=by kernel_rfl
 i5:=by kernel_rfl
 i9:=by kernel_rfl
 i20:=by kernel_rfl
 i37:=by kernel_rfl
 i46:=by kernel_rfl
 i51:=by kernel_rfl
 i53:=by kernel_rfl
 i171:=by kernel_rfl
 i173:=by kernel_rfl
 i212:=by kernel_rfl
 i232:=by kernel_rfl
 i233:=by kernel_rfl
 m17:=by kernel_rfl
 m18:=by kernel_rfl
 m19:=by kernel_rfl
def layPu_ren:Go.Shelf.Ren:=⟨fun|14=>271|16=>300|17=>301|19=>325|20=>326|21=>327|22=>328|23=>329|24=>330|25=>341|27=>242|26=>342|28=>279|29=>248|30=>283|31=>284|32=>285|33=>286|35=>172|34=>310|36=>311|37=>312|38=>313|39=>334|40=>335|n=>n,fun|9=>9|3=>3|22=>209|24=>365|25=>366|4=>4|34=>409|5=>5|36=>192|37=>24|0=>0|39=>411|21=>21|44=>424|47=>392|50=>436|48=>434|2=>2|52=>380|55=>382|59=>396|60=>246|20=>20|61=>397|65=>426|66=>427|67=>373|n=>n,fun|0=>6|1=>7|2=>3|3=>8|4=>9|n=>n⟩
theorem layPu:LaysPu.n14 prog layPu_ren where
 mixed:=by kernel_rfl
 f14:=func271.trans (congrArg some (by kernel_rfl))
 f16:=func300.trans (congrArg some (by kernel_rfl))
 f17:=func301.trans (congrArg some (by kernel_rfl))
 f19:=func325.trans (congrArg some (by kernel_rfl))
 f20:=func326.trans (congrArg some (by kernel_rfl))
 f21:=func327.trans (congrArg some (by kernel_rfl))
 f22:=func328.trans (congrArg some (by kernel_rfl))
 f23:=func329.trans (congrArg some (by kernel_rfl))
 f24:=func330.trans (congrArg some (by kernel_rfl))
 f25:=func341.trans (congrArg some (by kernel_rfl))
 f26:=func342.trans (congrArg some (by kernel_rfl))
 f27:=func242.trans (congrArg some (by kernel_rfl))
 f28:=func279.trans (congrArg some (by kernel_rfl))
 f29:=func248.trans (congrArg some (by kernel_rfl))
 f30:=func283.trans (congrArg some (by kernel_rfl))
 f31:=func284.trans (congrArg some (by kernel_rfl))
 f32:=func285.trans (congrArg some (by kernel_rfl))
 f33:=func286.trans (congrArg some (by kernel_rfl))
 f34:=func310.trans (congrArg some (by kernel_rfl))
 f35:=func172.trans (congrArg some (by kernel_rfl))
 f36:=func311.trans (congrArg some (by kernel_rfl))
 f37:=func312.trans (congrArg some (by kernel_rfl))
 f38:=func313.trans (congrArg some (by kernel_rfl))
 f39:=func334.trans (congrArg some (by kernel_rfl))
 f40:=func335.trans (congrArg some (by kernel_rfl))
 t0:=underlying0
 a0:=isAgg0
 z0:=sizeOf0
 v0:=zeroValue0
 i0:=by kernel_rfl
 t2:=underlying2
 a2:=isAgg2
 z2:=sizeOf2
 v2:=zeroValue2
 i2:=by kernel_rfl
 t3:=underlying3
 a3:=isAgg3
 z3:=sizeOf3
 v3:=zeroValue3
 i3:=by kernel_rfl
 t4:=underlying4
 a4:=isAgg4
 z4:=sizeOf4
 v4:=zeroValue4
 i4:=by kernel_rfl
 t5:=underlying5
 a5:=isAgg5
 z5:=sizeOf5
 v5:=zeroValue5
 i5:=by kernel_rfl
 t9:=underlying9
 a9:=isAgg9
 z9:=sizeOf9
 v9:=zeroValue9
 i9:=by kernel_rfl
 t20:=underlying20
 a20:=isAgg20
 z20:=sizeOf20
 v20:=zeroValue20
 i20:=by kernel_rfl
 t21:=underlying21
 a21:=isAgg21
 z21:=sizeOf21
 v21:=zeroValue21
 i21:=by kernel_rfl
 t22:=underlying209
 a22:=isAgg209
 z22:=sizeOf209
 v22:=zeroValue209
 i22:=by kernel_rfl
 t24:=underlying365
 a24:=isAgg365
 z24:=sizeOf365
 v24:=zeroValue365
 i24:=by kernel_rfl
 t25:=underlying366
 a25:=isAgg366
 z25:=sizeOf366
 v25:=zeroValue366
 i25:=by kernel_rfl
 t34:=underlying409
 a34:=isAgg409
 z34:=sizeOf409
 v34:=zeroValue409
 i34:=by kernel_rfl
 c34:=by kernel_rfl
 t36:=underlying192
 a36:=isAgg192
 z36:=sizeOf192
 v36:=zeroValue192
 i36:=by kernel_rfl
 t37:=underlying24
 a37:=isAgg24
 z37:=sizeOf24
 v37:=zeroValue24
 i37:=by kernel_rfl
 t39:=underlying411
 a39:=isAgg411
 z39:=sizeOf411
 v39:=zeroValue411
 i39:=by kernel_rfl
 t44:=underlying424
 a44:=isAgg424
 z44:=sizeOf424
 v44:=zeroValue424
 i44:=by kernel_rfl
 t47:=underlying392
 a47:=isAgg392
 z47:=sizeOf392
 v47:=zeroValue392
 i47:=by kernel_rfl
 t48:=underlying434
 a48:=isAgg434
 z48:=sizeOf434
 v48:=zeroValue434
 i48:=by kernel_rfl
 t50:=underlying436
 a50:=isAgg436
 z50:=sizeOf436
 v50:=zeroValue436
 i50:=by kernel_rfl
 t52:=underlying380
 a52:=isAgg380
 z52:=sizeOf380
 v52:=zeroValue380
 i52:=by kernel_rfl
 t55:=underlying382
 a55:=isAgg382
 z55:=sizeOf382
 v55:=zeroValue382
 i55:=by kernel_rfl
 t59:=underlying396
 a59:=isAgg396
 z59:=sizeOf396
 v59:=zeroValue396
 i59:=by kernel_rfl
 t60:=underlying246
 a60:=isAgg246
 z60:=sizeOf246
 v60:=zeroValue246
 i60:=by kernel_rfl
 t61:=underlying397
 a61:=isAgg397
 z61:=sizeOf397
 t65:=underlying426
 a65:=isAgg426
 z65:=sizeOf426
 v65:=zeroValue426
 i65:=by kernel_rfl
 t66:=underlying427
 a66:=isAgg427
 z66:=sizeOf427
 v66:=zeroValue427
 i66:=by kernel_rfl
 t67:=underlying373
 a67:=isAgg373
 z67:=sizeOf373
 v67:=zeroValue373
 i67:=by kernel_rfl
 g0:=by kernel_rfl
 m0:=by kernel_rfl
 g1:=by kernel_rfl
 m1:=by kernel_rfl
 g2:=by kernel_rfl
 m2:=by kernel_rfl
 g3:=by kernel_rfl
 m3:=by kernel_rfl
 g4:=by kernel_rfl
 m4:=by kernel_rfl
end Go.Proofs.YtgenjpingdkmgaaGreatDoor
namespace Go.Proofs.YtgenjpingdkmgaaGreatDoor
namespace Eng
namespace NU
def rightN (n:Int):Bool:=decide (-4611686018427387904<=n) && decide (n<=4611686018427387904)
theorem rightN_spec {n:Int}:rightN n=true↔-4611686018427387904<=n/\n<=4611686018427387904:=by simp[rightN]
theorem rightN_no {n:Int}:rightN n=false↔¬(-4611686018427387904<=n/\n<=4611686018427387904):=by rw[<-rightN_spec];simp
def qUT11:=PLift.up (An @wrap_u64 (An @and32 @shr32))
theorem right_c (n:Int):ACall prog 110 [] [I n] (B (rightN n)) []:=by
 refine Ac func110 ?_;refine Wk qUT11.1 trivial ?_;refine Fn @results110 qUT11.1 ?_;try exact ⟨⟩
 rfl
def okN (n:Int):Prop:=-4611686018427387904<=n/\n<=4611686018427387904
open Classical in
noncomputable def addS (a b:Int):Int×Bool:=if okN a/\okN b/\okN (a+b) then (a+b,true) else (0,false)
abbrev numD (r:Int×Bool):D:=.t [.c (.v (vI r.1)),.c (.v (.x (.bool r.2)))]
theorem wrap_sum (a b:Int) (ha:okN a) (hb:okN b):rightN (IntKind.i64.wrap (a+b))=true↔okN (a+b):=by
 unfold okN at *;by_cases c:a+b=9223372036854775808
 .rw[c,show IntKind.i64.wrap 9223372036854775808=-9223372036854775808 by decide,rightN_spec];omega
 .rw[Zn _ (by omega) (by omega),rightN_spec]
theorem add_c (a b:Int) (r:Int×Bool) (hr:addS a b=r) (h1:-9223372036854775808<=a/\a<=9223372036854775807):ACall prog 64 [] [I a,I b] (numD r) []:=by
 refine Ac func64 ?_;refine Wk qUT11.1 @right_c ?_;refine Cb ?_ ?_<;>intro hc<;>(try exact ⟨⟩)
 .refine Wk qUT11.1 @right_c ?_
  have e:r=(0,false):=by
   rw[<-hr,addS,if_neg];rintro ⟨ha,hb,hs⟩;have h2:=(wrap_sum a b ha hb).2 hs;have ha':=rightN_spec.2 ha;have hb':=rightN_spec.2 hb;simp[ha',hb',h2]at hc
  subst e;refine Fn @results64 qUT11.1 ?_;try exact ⟨⟩
 .obtain ⟨⟨ha,hb⟩,hs⟩:=hc;have ha':=rightN_spec.1 ha;have hb':=rightN_spec.1 hb;have hs':=(wrap_sum a b ha' hb').1 hs;have hs2:=hs';unfold okN at hs2;refine Wk qUT11.1 @right_c ?_;have e:r=(a+b,true):=by rw[<-hr,addS,if_pos ⟨ha',hb',hs'⟩]
  subst e;refine Fn @results64 qUT11.1 ?_;try exact ⟨⟩
def absN (n:Int):Int:=if n<0 then -n else n
theorem size_c (n:Int) (h:-4611686018427387904<=n/\n<=4611686018427387904):ACall prog 129 [] [I n] (.e (.c (.v (.x (.int .u64 (absN n)))))) []:=by
 refine Ac func129 ?_;refine Wk qUT11.1 @right_c ?_;refine Cb ?_ ?_<;>intro hc<;>(try exact ⟨⟩)
 .refine Wk qUT11.1 @right_c ?_;have e:absN n=0 - n:=by rw[absN,if_pos hc];omega
  rw[e];refine Fn @results129 qUT11.1 ?_;try exact ⟨⟩
 .refine Wk qUT11.1 @right_c ?_;have e:absN n=n:=by rw[absN,if_neg hc]
  rw[e];refine Fn @results129 qUT11.1 ?_;try exact ⟨⟩
theorem mul_parts (x0 x1 y0 y1 m:Int):(x1*m+x0)*(y1*m+y0)=(x1*y1)*(m*m)+(x1*y0+x0*y1)*m+x0*y0:=by
 simp only[Int.add_mul,Int.mul_add,Int.mul_assoc,Int.mul_comm,Int.mul_left_comm];omega
theorem mul_bd {a b A B:Int} (h1:0<=a) (h2:a<=A) (h3:0<=b) (h4:b<=B):0<=a*b/\a*b<=A*B :=
 ⟨Int.mul_nonneg h1 h3,Int.mul_le_mul h2 h4 h3 (by omega)⟩
theorem hi_eq (x y:Int) (hx0:0<=x) (hx1:x<=4611686018427387904) (hy0:0<=y) (hy1:y<=4611686018427387904) :
 x / 4294967296*(y / 4294967296)+(x / 4294967296*(y % 4294967296)+x % 4294967296*(y % 4294967296) / 4294967296) / 4294967296 +
  ((x / 4294967296*(y % 4294967296)+x % 4294967296*(y % 4294967296) / 4294967296) % 4294967296+x % 4294967296*(y / 4294967296)) / 4294967296=x*y / 18446744073709551616:=by
 have e:=mul_parts (x % 4294967296) (x / 4294967296) (y % 4294967296) (y / 4294967296) 4294967296;have ex:x / 4294967296*4294967296+x % 4294967296=x:=by omega
 have ey:y / 4294967296*4294967296+y % 4294967296=y:=by omega
 rw[ex,ey]at e;have b1:=mul_bd (a:=x % 4294967296) (b:=y % 4294967296) (A:=4294967295) (B:=4294967295) (by omega) (by omega) (by omega) (by omega);have b2:=mul_bd (a:=x / 4294967296) (b:=y % 4294967296) (A:=1073741824) (B:=4294967295) (by omega) (by omega) (by omega) (by omega);have b3:=mul_bd (a:=x % 4294967296) (b:=y / 4294967296) (A:=4294967295) (B:=1073741824) (by omega) (by omega) (by omega) (by omega);have b4:=mul_bd (a:=x / 4294967296) (b:=y / 4294967296) (A:=1073741824) (B:=1073741824) (by omega) (by omega) (by omega) (by omega);rw[e];generalize x / 4294967296*(y / 4294967296)=p at *;generalize x / 4294967296*(y % 4294967296)=q at *;generalize x % 4294967296*(y / 4294967296)=r at *;generalize x % 4294967296*(y % 4294967296)=s at *;omega
abbrev U (n:Int):D:=.e (.c (.v (.x (.int .u64 n))))
theorem shr32b (x:Int):x.fdiv (2 ^ min 32 IntKind.u64.bits)=x / 4294967296:=shr32 x
def qUT12:=PLift.up (An @wrap_u64 (An @and32 (An @shr32 @shr32b)))
theorem mul64_c (x y:Int) (hx0:0<=x) (hx1:x<=4611686018427387904) (hy0:0<=y) (hy1:y<=4611686018427387904) :
 ACall prog 128 [] [U x,U y] (.t [.c (.v (.x (.int .u64 (x*y / 18446744073709551616)))),.c (.v (.x (.int .u64 (IntKind.u64.wrap (x*y)))))]) []:=by
 have b1:=mul_bd (a:=x % 4294967296) (b:=y % 4294967296) (A:=4294967295) (B:=4294967295) (by omega) (by omega) (by omega) (by omega);have b2:=mul_bd (a:=x / 4294967296) (b:=y % 4294967296) (A:=1073741824) (B:=4294967295) (by omega) (by omega) (by omega) (by omega);have b3:=mul_bd (a:=x % 4294967296) (b:=y / 4294967296) (A:=4294967295) (B:=1073741824) (by omega) (by omega) (by omega) (by omega);have b4:=mul_bd (a:=x / 4294967296) (b:=y / 4294967296) (A:=1073741824) (B:=1073741824) (by omega) (by omega) (by omega) (by omega);refine Ac func128 ?_;refine Wk qUT12.1 (An @right_c @size_c) ?_;refine Fn @results128 qUT12.1 ?_;try exact ⟨⟩
 rw[hi_eq x y hx0 hx1 hy0 hy1]
end NU
namespace NU
def isD (c:UInt8):Bool:=decide (48<=c.toNat/\c.toNat<=57)
def valA (a:Nat) (l:List UInt8):Nat:=l.foldl (fun a c=>a*10+(c.toNat - 48)) a
def cutM (l:List UInt8):List UInt8×Bool:=match l with
 | []=>([],false)
 | c::r=>if c=45 then (r,true) else (c::r,false)
def formP (d:List UInt8) (b:Bool):Prop:=d=[]\/(d.head?=some 48/\(b=true\/1<d.length))
instance (d:List UInt8) (b:Bool):Decidable (formP d b):=by unfold formP;exact inferInstance
def endP (v:Nat) (b:Bool):Int×Int:=if v<=4611686018427387904 then (if b=true then -(v:Int) else (v:Int),0) else (0,9)
def digP (d:List UInt8) (b:Bool):Int×Int:=if d.all isD=true then endP (valA 0 d) b else (0,3)
def parseS (l:List UInt8):Int×Int :=
 if 20<l.length then (0,4) else
 if formP (cutM l).1 (cutM l).2 then (0,3) else digP (cutM l).1 (cutM l).2
theorem valA_nil (a:Nat):valA a []=a:=rfl
theorem valA_cons (a:Nat) (c:UInt8) (l:List UInt8):valA a (c::l)=valA (a*10+(c.toNat - 48)) l:=by unfold valA;exact List.foldl_cons ..
theorem valA_ge:∀(l:List UInt8) (a:Nat),a<=valA a l
 | [],a=>Nat.le_refl _
 | c::l,a=>by rw[valA_cons];exact Nat.le_trans (by omega) (valA_ge l _)
theorem parseM_digits {M:Nat} (hM:M=18446744073709551615) (l:List UInt8):∀(acc:Nat),l.all isD=true->acc<=M->Lib.parseUintM M acc l=if valA acc l<=M then .ok (valA acc l) else .range:=by
 induction l with
 | nil=>intro acc _ h;rw[valA_nil,if_pos h];simp only[Lib.parseUintM]
 | cons c r ih =>
  intro acc hd h;rw[List.all_cons,Bool.and_eq_true]at hd;have hc:48<=c.toNat/\c.toNat<=57:=of_decide_eq_true hd.1;have hge:=valA_ge r (acc*10+(c.toNat - 48));rw[valA_cons];simp only[Lib.parseUintM];rw[if_pos hc];by_cases h1:1844674407370955162<=acc
  .rw[if_pos h1,if_neg (by omega)]
  .rw[if_neg h1];by_cases h2:M<acc*10+(c.toNat - 48)
   .rw[if_pos h2,if_neg (by omega)]
   .rw[if_neg h2,ih _ hd.2 (by omega)]
theorem parseB_digits {l:List UInt8} (h0:l≠[]) (hd:l.all isD=true):Lib.parseUintB 64 l=if valA 0 l<=18446744073709551615 then .ok (valA 0 l) else .range:=by
 rw[Lib.parseUintB,if_neg h0];have hM:2 ^ 64 - 1=18446744073709551615:=by decide
 rw[parseM_digits hM l 0 hd (Nat.zero_le _),hM]
end NU
section
namespace NU
open Go.RowKit
variable {P:Program}
theorem acall_raw {f:FuncId} {args:List D} {val:D} (hp:Plain P f) (h:∀(w:World) (vs:List Value) (ow:Nat->Prop) (ρ:Nat->Option Pl),Glob (fun _=>False) w->All2 (RepD w ow ρ) args vs ->
 Calls P f vs.toArray w fun e w'=>∃u,e=.returned u/\Below w.heap.size w w'/\∀ow' ρ',RepD w' ow' ρ' val u):ACall P f [] args val [] :=
 ⟨hp,fun own0 w ρ vs hm ha=>(h w vs _ _ (fun x hx=>⟨(hm.glob x hx).1,fun e=>e,(hm.glob x hx).2.2⟩) ha).mono fun e w' ⟨u,he,hb,hd⟩ =>
  ⟨u,ρ,he,.refl _,hd _ _,(Step.grow hm ⟨hb.os,hb.tape,hb.output,hb.size,fun b h _=>hb.block b h⟩).mem⟩⟩
theorem raw_call {f:FuncId} {args:List D} {val:D} {vs:List Value} {w:World} (h:ACall P f [] args val []) (hG:Glob (fun _=>False) w) (ha:∀ow ρ,All2 (RepD w ow ρ) args vs) :
 Calls P f vs.toArray w fun e w'=>∃u ow ρ,e=.returned u/\Below w.heap.size w w'/\RepD w' ow ρ val u:=by
 have hmem:Mem (fun _=>False) (Hd fun _=>none) w (fun _=>none) (fun i=>([]:List Blk)[i]?) w :=
  { blks:=fun i b h=>by simp at h
    defd:=fun _ _=>rfl
    inj:=fun _ _ _ _ _ _ _ _ h _=>by simp[solid]at h
    fresh:=fun _ _ _ _ h=>by cases h
    keep:=KeepM.refl _ _
    own0:=fun _ h=>h.elim
    glob:=fun x hx=>⟨(hG x hx).1,fun e=>e.elim (fun ⟨_,_,_,h⟩=>by cases h) id,(hG x hx).2.2⟩ }
 refine (h.2 (fun _=>False) w (fun _=>none) vs hmem (ha _ _)).mono ?_;rintro e w' ⟨u,ρ',rfl,_,hd,hm⟩;exact ⟨u,_,ρ',rfl,⟨hm.keep.os,hm.keep.tape,hm.keep.output,hm.keep.size,fun k hk=>hm.keep.block k hk fun ⟨_,_,_,h⟩=>by cases h⟩,hd⟩
theorem glob_tab {w:World} (h:Glob (fun _=>False) w):Lib.TabIs prog w "internal/strconv.uint64pow10" .u64 Lib.pow10Tab:=by
 obtain ⟨_,_,t,z,h⟩:=h _ (List.mem_cons_of_mem _ (List.mem_cons_self ..));unfold Lib.TabIs World.var?;rw[show prog.globalNamed "internal/strconv.uint64pow10"=some 3 by kernel_rfl];dsimp only at h;rw[Option.bind_some,h];rfl
theorem glob_err {w:World} (h:Glob (fun _=>False) w):∃tp p,w.cell? ⟨7,0,none⟩=some (.iface tp p):=by
 obtain ⟨_,_,tp,p,t,z,h⟩:=h _ (List.mem_cons_self ..);dsimp only at h;exact ⟨tp,p,by unfold World.cell?;simp only[h];rfl⟩
theorem fmt_c (n:Int) (h0:-9223372036854775808<=n) (h1:n<=9223372036854775807):ACall prog 202 [] [I n,I 10] (.e (.c (.v (.x (.string ⟨(Lib.itoa n).toArray⟩))))) []:=by
 refine acall_raw ⟨_,func202,by kernel_rfl,by kernel_rfl⟩ fun w vs ow ρ hG ha=>?_
 match vs,ha with
 | [a,b],⟨h2,h3,_⟩ =>
  obtain ⟨rfl,_⟩:=rep_x (v:=.int .i64 n) h2;obtain ⟨rfl,_⟩:=rep_x (v:=.int .i64 10) h3;refine (Any.strconv_FormatInt_10 layFi n h0 h1 w (glob_tab hG)).mono ?_;rintro e w' ⟨rfl,k,os,rfl⟩;exact ⟨_,rfl,Lib.below_grow _ _ (Nat.le_refl _) _ _,fun _ _=>RepV.x _ rfl⟩
end NU
end
namespace NU
abbrev str (l:List UInt8):ByteArray:=⟨l.toArray⟩
abbrev SD (s:ByteArray):D:=.e (.c (.v (.x (.string s))))
theorem Yb (l:List UInt8):(str l).size=l.length:=rfl
theorem str_ext (l:List UInt8) (a b:Nat):(str l).extract a b=str ((l.drop a).take (b - a)):=by
 apply ByteArray.ext;rw[ByteArray.data_extract];apply Array.toList_inj.1;rw[Array.toList_extract]
theorem hasP_c (l:List UInt8) (hl:l.length<=1000) (b:Bool) (hb:decide (l.head?=some 45)=b):ACall prog 324 [] [SD (str l),SD (str [45])] (B b) []:=by
 have hp:True:=trivial;have hc28:True:=trivial;refine Ac func324 ?_;refine Wk trivial (An @hp @hc28) ?_;refine Fn @results324 trivial ?_;try exact ⟨⟩
 rw[<-hb,str_ext,Yb,Yb]
 cases l with
 | nil=>rfl
 | cons c l =>
  rw[Bool.eq_iff_iff];simp;omega
theorem cut28_c (l:List UInt8) (hl:l.length<=1000):ACall prog 299 [] [SD (str l),SD (str [45])] (.t [.c (.v (.x (.string (str (cutM l).1)))),.c (.v (.x (.bool (cutM l).2)))]) []:=by
 have hc28:True:=trivial;obtain ⟨b,hb⟩:∃b,decide (l.head?=some 45)=b:=⟨_,rfl⟩
 have hp:=hasP_c l hl b hb
 cases b with
 | true =>
  have hh:=of_decide_eq_true hb
  obtain ⟨r,rfl⟩:∃r,l=45::r:=by
   cases l with
   | nil=>simp at hh
   | cons c r=>exact ⟨r,by simp at hh;rw[hh]⟩
  refine Ac func299 ?_;refine Wk trivial (An @hp @hc28) ?_;refine Cb ?_ ?_<;>intro hc<;>(try exact ⟨⟩)
  .first|contradiction|(simp at hc;done)
  .have h1:(((str [45]).size:Nat):Int)<=(((str (45::r)).size:Nat):Int):=by rw[Yb,Yb];simp;omega
   refine Wk trivial (An @hp @hc28) ?_;refine Fn @results299 trivial ?_;try exact ⟨⟩
   rw[str_ext,Yb,Yb];refine ⟨?_,rfl⟩;congr 3
   simp[cutM]
 | false =>
  have hh:=of_decide_eq_false hb
  have e:cutM l=(l,false):=by
   cases l with
   | nil=>rfl
   | cons c r=>rw[cutM,if_neg];intro h;exact hh (by rw[h];rfl)
  rw[e];refine Ac func299 ?_;refine Wk trivial (An @hp @hc28) ?_;refine Cb ?_ ?_<;>intro hc<;>(try exact ⟨⟩)
  .refine Wk trivial (An @hp @hc28) ?_;refine Fn @results299 trivial ?_;try exact ⟨⟩
  .first|contradiction|(simp at hc;done)
theorem cut24_c (l:List UInt8) (hl:l.length<=1000):ACall prog 270 [] [SD (str l),SD (str [45])] (.t [.c (.v (.x (.string (str (cutM l).1)))),.c (.v (.x (.bool (cutM l).2)))]) []:=by
 have hp:True:=trivial;have hc28:=cut28_c l hl;refine Ac func270 ?_;refine Wk trivial (An @hp @hc28) ?_;refine Fn @results270 trivial ?_;try exact ⟨⟩
end NU
section
namespace NU
open Go.RowKit
theorem parse_raw (l:List UInt8) (hl:l.length<=20) (hd:l.all isD=true) (h0:l≠[]) (h48:l.head?≠some 48) (hv:18446744073709551615<valA 0 l) (w:World) (hG:Glob (fun _=>False) w) :
 Calls prog 236 #[.string (str l)] w fun e w'=>e=.returned (.tuple #[.int .i64 0,.int .i64 9])/\Below w.heap.size w w':=by
 have hcut:cutM l=(l,false):=by
  cases l with
  | nil=>exact absurd rfl h0
  | cons c r =>
   rw[cutM,if_neg];rintro rfl;rw[List.all_cons]at hd;simp[isD]at hd
 have h24:∀w,Glob (fun _=>False) w->Calls prog 270 #[.string (str l),.string (str [45])] w fun e w'=>e=.returned (.tuple #[.string (str l),.bool false])/\Below w.heap.size w w':=fun w hG=>by
  refine (raw_call (vs:=[.string (str l),.string (str [45])]) (cut24_c l (by omega)) hG fun ow ρ=>⟨RepV.x _ rfl,RepV.x _ rfl,trivial⟩).mono ?_;rintro e w' ⟨u,ow,ρ,rfl,hb,us,rfl,hu⟩;rw[hcut]at hu
  match us,hu with
  | [a,b],⟨h1,h2,_⟩ =>
   obtain ⟨rfl,_⟩:=rep_x (v:=.string (str l)) h1;obtain ⟨rfl,_⟩:=rep_x (v:=.bool false) h2;exact ⟨rfl,hb⟩
 obtain ⟨tp,pp,herr⟩:=glob_err hG;have hlen:l.length≠0:=fun h=>h0 (List.eq_nil_of_length_eq_zero h)
 have hne:l.isEmpty=false:=by cases l with
  | nil=>exact absurd rfl h0
  | cons c r=>rfl
 have h25:∀w1,Below w.heap.size w w1->Calls prog 271 #[.string (str l),.int .i64 10,.int .i64 64] w1 fun e w'=>(∃N,e=.returned (.tuple #[.int .u64 18446744073709551615,.iface 411 (.pointer (some ⟨N,0,none⟩))]))/\Below w1.heap.size w1 w':=fun w1 hb=>by
  have hp:Lib.parseUintB 64 (str l).data.toList=.range:=by
   rw[show (str l).data.toList=l from rfl,parseB_digits h0 hd,if_neg (by omega)]
  have hlt:7<w.heap.size:=Lib.lt_of_cell herr;have hcell:w1.cell? ⟨7,0,none⟩=some (.iface tp pp):=(hb.cell (show (⟨7,0,none⟩:Addr).block<w.heap.size from hlt)).trans herr;refine (Any.strconv_ParseUint_10_at64_range layPu (str l) (by rw[Yb];omega) hp (.iface tp pp) w1 hcell (.inr ⟨_,_,rfl⟩)).mono ?_;rintro e w' ⟨N,rfl,_,_,h⟩;exact ⟨⟨N,rfl⟩,h⟩
 have hbyte:∀k (h:k<l.length),48<=(l[k]'h).toNat/\(l[k]'h).toNat<=57:=fun k h=>of_decide_eq_true (List.all_eq_true.1 hd _ (List.getElem_mem h))
 have hb0:¬(((str l)[0]'(by rw[Yb];omega)).toNat:Int)=48:=fun e=>by
  apply h48
  cases l with
  | nil=>exact absurd rfl h0
  | cons c r =>
   have e2:c.toNat=48:=by exact_mod_cast e
   rw[List.head?_cons,UInt8.toNat_inj.1 (show c.toNat=(48:UInt8).toNat from e2)]
 go_enter func236,ntmps236
 go_wp2_with (first|(go_at_call 270;refine (h24 _ hG).mono ?_;rintro e w1 ⟨rfl,hb1⟩))
 all_goals try (exfalso;first|omega|contradiction|(simp_all;done))
 go_loop [34] (fun vi=>∃k:Nat,vi=.int .i64 k/\k<=l.length) (fun vi=>l.length - (Go.RowKit.intOf vi).toNat)
 case atStart=>exact ⟨0,rfl,by omega⟩
 case round =>
  obtain ⟨k,rfl,hk⟩:=hrel;by_cases hkn:k<l.length
  .have hbk:48<=(((str l)[k]'(by rw[Yb];exact hkn)).toNat:Int)/\(((str l)[k]'(by rw[Yb];exact hkn)).toNat:Int)<=57:=by
    have h:=hbyte k hkn;have e:(str l)[k]'(by rw[Yb];exact hkn)=l[k]'hkn:=rfl;rw[e];omega
   go_wp2
   all_goals first|(exfalso;omega)|exact ⟨⟨k+1,rfl,by omega⟩,by simp[Go.RowKit.intOf];omega⟩
  .obtain rfl:k=l.length:=by omega
   go_wp2_with (go_at_call 271;refine (h25 _ hb1).mono ?_;rintro e w2 ⟨⟨N,rfl⟩,hb2⟩)
   go_ret2
   exact ⟨rfl,hb1.trans (hb2.mono hb1.size)⟩
end NU
end
section
namespace NU
open Go.RowKit
theorem cN1:constNil (.const .nilIface)=true:=rfl
theorem str_at (l:List UInt8) (k:Nat):strAt (str l) k=l.getD k 0:=by
 unfold strAt;simp[List.getD_eq_getElem?_getD]
theorem val_lt:∀(l:List UInt8) (a:Nat),l.all isD=true->valA a l<(a+1)*10 ^ l.length
 | [],a,_=>by rw[valA_nil];simp
 | c::l,a,h=>by
  rw[List.all_cons,Bool.and_eq_true]at h;have hc:48<=c.toNat/\c.toNat<=57:=of_decide_eq_true h.1;rw[valA_cons,List.length_cons,Nat.pow_succ];have:=val_lt l (a*10+(c.toNat - 48)) h.2;refine Nat.lt_of_lt_of_le this ?_;rw[Nat.mul_comm (10 ^ l.length) 10,<-Nat.mul_assoc];exact Nat.mul_le_mul_right _ (by omega)
theorem pu_c (d:List UInt8) (hl:d.length<=1000) (h0:d≠[]) (hd:d.all isD=true) (hv:valA 0 d<=18446744073709551615) :
 ACall prog 271 [] [SD (str d),I 10,I 64] (.t [.c (.v (.x (.int .u64 (valA 0 d)))),.c (.v (.x .nilIface))]) []:=by
 refine acall_raw ⟨_,func271,by kernel_rfl,by kernel_rfl⟩ fun w vs ow ρ hG ha=>?_
 match vs,ha with
 | [a,b,c],⟨h2,h3,h4,_⟩ =>
  obtain ⟨rfl,_⟩:=rep_x (v:=.string (str d)) h2;obtain ⟨rfl,_⟩:=rep_x (v:=.int .i64 10) h3;obtain ⟨rfl,_⟩:=rep_x (v:=.int .i64 64) h4
  have hp:Lib.parseUintB 64 (str d).data.toList=.ok (valA 0 d):=by
   rw[show (str d).data.toList=d from rfl,parseB_digits h0 hd,if_pos hv]
  refine (Any.strconv_ParseUint_10_at64_ok layPu (str d) (by rw[Yb];omega) _ hp w).mono ?_;rintro e w' ⟨rfl,hw⟩;refine ⟨_,rfl,?_,fun _ _=>⟨_,rfl,RepV.x _ rfl,RepV.x _ rfl,trivial⟩⟩;rcases hw with rfl|rfl
  .exact Below.refl _ _
  .exact Lib.bytesWorld_below _ _ _
abbrev resP (r:Int×Int):D:=.t [.c (.v (.x (.int .i64 r.1))),.c (.v (.x (.int .i64 r.2)))]
theorem c48 {c:UInt8}:((c.toNat:Int)=48)↔c=48:=by
 have e:(48:UInt8).toNat=48:=rfl;exact ⟨fun h=>UInt8.toNat_inj.1 (by omega),fun h=>by rw[h];rfl⟩
def qUZ51:=PLift.up (An @Yb (An @str_at @cN1))
theorem parse_c (l:List UInt8) (hl:l.length<=1000) (r:Int×Int) (hr:parseS l=r):ACall prog 236 [] [SD (str l)] (resP r) []:=by
 have hq1:True:=trivial;have hq2:True:=trivial;have hpu:True:=trivial;have hfmt:True:=trivial;have hcut:=cut24_c l hl;unfold parseS at hr;by_cases h20:20<l.length
 .rw[if_pos h20]at hr;subst hr;refine Ac func236 ?_;refine Wk (An @hq1 (An @hq2 qUZ51.1)) (An @hcut (An @hpu (An @hfmt @right_c))) ?_;refine Cb ?_ ?_<;>intro hc<;>(try exact ⟨⟩)
  .refine Wk (An @hq1 (An @hq2 qUZ51.1)) (An @hcut (An @hpu (An @hfmt @right_c))) ?_;refine Fn @results236 (An @hq1 (An @hq2 qUZ51.1)) ?_;try exact ⟨⟩
  .omega
 .rw[if_neg h20]at hr;obtain ⟨⟨d,b⟩,hdb⟩:∃x,cutM l=x:=⟨_,rfl⟩
  have hdl:d.length<=l.length/\(b=true->d.length<l.length)/\(b=false->d=l):=by
   cases l with
   | nil=>cases hdb;exact ⟨Nat.le_refl _,(fun h=>by cases h),fun _=>rfl⟩
   | cons c r =>
    rw[cutM]at hdb
    split at hdb
    .cases hdb;exact ⟨by simp,(fun _=>by simp),fun h=>by cases h⟩
    .cases hdb;exact ⟨Nat.le_refl _,(fun h=>by cases h),fun _=>rfl⟩
  rw[hdb]at hr hcut;dsimp only at hr hcut
  cases d with
  | nil =>
   rw[if_pos (show formP [] b from Or.inl rfl)]at hr;subst hr;refine Ac func236 ?_;refine Wk (An @hq1 (An @hq2 qUZ51.1)) (An @hcut (An @hpu (An @hfmt @right_c))) ?_;refine Cb ?_ ?_<;>intro hc<;>(try exact ⟨⟩)
   .omega
   .refine Wk (An @hq1 (An @hq2 qUZ51.1)) (An @hcut (An @hpu (An @hfmt @right_c))) ?_;refine Cb ?_ ?_<;>intro hc<;>(try exact ⟨⟩)
    .refine Wk (An @hq1 (An @hq2 qUZ51.1)) (An @hcut (An @hpu (An @hfmt @right_c))) ?_;refine Fn @results236 (An @hq1 (An @hq2 qUZ51.1)) ?_;try exact ⟨⟩
    .first|contradiction|(simp at hc;done)
  | cons c d =>
   have hq1:((c::d) == ([]:List UInt8))=false:=rfl;have hq2:(c::d).getD 0 0=c:=rfl;have hdl1:=hdl.1;by_cases hf:formP (c::d) b
   .rw[if_pos hf]at hr;subst hr;refine Ac func236 ?_;refine Wk (An @hq1 (An @hq2 qUZ51.1)) (An @hcut (An @hpu (An @hfmt @right_c))) ?_;refine Cb ?_ ?_<;>intro hc<;>(try exact ⟨⟩)
    .omega
    .refine Wk (An @hq1 (An @hq2 qUZ51.1)) (An @hcut (An @hpu (An @hfmt @right_c))) ?_;refine Cb ?_ ?_<;>intro hc<;>(try exact ⟨⟩)
     .refine Wk (An @hq1 (An @hq2 qUZ51.1)) (An @hcut (An @hpu (An @hfmt @right_c))) ?_;refine Fn @results236 (An @hq1 (An @hq2 qUZ51.1)) ?_;try exact ⟨⟩
     .exfalso;rcases hf with h|⟨h1,h2⟩
      .cases h
      .have h1:c=48:=by simpa using h1
       have h3:=c48.2 h1;simp only[List.length_cons]at h2 hc;rcases hc with hc|⟨hc1,hc2⟩
       .exact hc h3
       .rcases h2 with h2|h2
        .rw[h2]at hc1;cases hc1
        .omega
   .rw[if_neg hf]at hr;have hcl:(c::d).length=d.length+1:=rfl;have hnf:¬((c.toNat:Int)=48/\(b=true\/1<((d.length+1:Nat):Int))):=fun ⟨h1,h2⟩=>hf (.inr ⟨by rw[c48.1 h1];rfl,h2.imp id fun h=>by rw[List.length_cons];omega⟩);by_cases hd:(c::d).all isD=true
    .have hby:∀k,k<(c::d).length->48<=(((c::d).getD k 0).toNat:Int)/\(((c::d).getD k 0).toNat:Int)<=57:=fun k hk=>by
      have:=of_decide_eq_true (List.all_eq_true.1 hd _ (List.getElem_mem hk));rw[List.getD_eq_getElem?_getD,List.getElem?_eq_getElem hk,Option.getD_some];omega
     rw[digP,if_pos hd]at hr;by_cases hv:valA 0 (c::d)<=18446744073709551615
     .have hpu:=pu_c (c::d) (by omega) (by simp) hd hv;obtain ⟨v,hvv⟩:∃v,valA 0 (c::d)=v:=⟨_,rfl⟩
      rw[hvv]at hpu hr hv;refine Ac func236 ?_;refine Wk (An @hq1 (An @hq2 qUZ51.1)) (An @hcut (An @hpu (An @hfmt @right_c))) ?_;refine Cb ?_ ?_<;>intro hc<;>(try exact ⟨⟩)
      .omega
      .refine Wk (An @hq1 (An @hq2 qUZ51.1)) (An @hcut (An @hpu (An @hfmt @right_c))) ?_;refine Cb ?_ ?_<;>intro hc<;>(try exact ⟨⟩)
       .exact absurd hc hnf
       .refine Wk (An @hq1 (An @hq2 qUZ51.1)) (An @hcut (An @hpu (An @hfmt @right_c))) ?_;refine AWp.loop (τ:=ren []) (fun k:Nat=>mkSt [(4,SD (str (c::d))),(5,B b),(33,I ((c::d).length:Nat)),(34,I k)] [] 0) (fun k=>k<=(c::d).length) (fun k=>(c::d).length - k) 0 (Nat.zero_le _) (by refine Le.of (ν:=[]) (by kernel_rfl) ?_ ?_<;>((refine Lw (An @hq1 (An @hq2 qUZ51.1)) ?_;try exact ⟨⟩);try (first|omega|rfl))) fun k hk=>?_;refine Wk (An @hq1 (An @hq2 qUZ51.1)) (An @hcut (An @hpu (An @hfmt @right_c))) ?_;refine Cb ?_ ?_<;>intro hc<;>(try exact ⟨⟩)
        .have hkl:k<(c::d).length:=by omega
         have hb:=hby k hkl;refine Wk (An @hq1 (An @hq2 qUZ51.1)) (An @hcut (An @hpu (An @hfmt @right_c))) ?_;refine Cb ?_ ?_<;>intro hc<;>(try exact ⟨⟩)
         .omega
         .refine Wk (An @hq1 (An @hq2 qUZ51.1)) (An @hcut (An @hpu (An @hfmt @right_c))) ?_;refine Za (τ:=ren []) (ν:=[]) (k+1) (by omega) (by omega) ?_;refine Le.of (by kernel_rfl) ?_ ?_<;>((refine Lw (An @hq1 (An @hq2 qUZ51.1)) ?_;try exact ⟨⟩);try (first|omega|rfl))
        .refine Wk (An @hq1 (An @hq2 qUZ51.1)) (An @hcut (An @hpu (An @hfmt @right_c))) ?_;by_cases hv2:v<=4611686018427387904
         .rw[endP,if_pos hv2]at hr
          cases b with
          | true =>
           rw[if_pos rfl]at hr;subst hr;refine Cb ?_ ?_<;>intro hc<;>(try exact ⟨⟩)
           .omega
           .refine Wk (An @hq1 (An @hq2 qUZ51.1)) (An @hcut (An @hpu (An @hfmt @right_c))) ?_;refine Cb ?_ ?_<;>intro hc<;>(try exact ⟨⟩)
            .refine Wk (An @hq1 (An @hq2 qUZ51.1)) (An @hcut (An @hpu (An @hfmt @right_c))) ?_;refine Fn @results236 (An @hq1 (An @hq2 qUZ51.1)) ?_;try exact ⟨⟩
            .first|contradiction|(simp at hc;done)
          | false =>
           rw[if_neg (by simp)]at hr;subst hr;refine Cb ?_ ?_<;>intro hc<;>(try exact ⟨⟩)
           .omega
           .refine Wk (An @hq1 (An @hq2 qUZ51.1)) (An @hcut (An @hpu (An @hfmt @right_c))) ?_;refine Cb ?_ ?_<;>intro hc<;>(try exact ⟨⟩)
            .first|contradiction|(simp at hc;done)
            .refine Wk (An @hq1 (An @hq2 qUZ51.1)) (An @hcut (An @hpu (An @hfmt @right_c))) ?_;refine Fn @results236 (An @hq1 (An @hq2 qUZ51.1)) ?_;try exact ⟨⟩
         .rw[endP,if_neg hv2]at hr;subst hr;refine Cb ?_ ?_<;>intro hc<;>(try exact ⟨⟩)
          .refine Wk (An @hq1 (An @hq2 qUZ51.1)) (An @hcut (An @hpu (An @hfmt @right_c))) ?_;refine Fn @results236 (An @hq1 (An @hq2 qUZ51.1)) ?_;try exact ⟨⟩
          .omega
     .have hlong:20<=(c::d).length:=by
       have h1:=val_lt (c::d) 0 hd;rcases Nat.lt_or_ge (c::d).length 20 with h|h
       .have h2:10 ^ (c::d).length<=10 ^ 19:=Nat.pow_le_pow_right (by omega) (by omega);omega
       .exact h
      have hbf:b=false:=by
       cases b with
       | false=>rfl
       | true=>have:=hdl.2.1 rfl;omega
      have hl2:=hdl.2.2 hbf;rw[endP,if_neg (by omega)]at hr;subst hr;rw[<-hl2];refine acall_raw ⟨_,func236,by kernel_rfl,by kernel_rfl⟩ fun w vs ow ρ hG ha=>?_
      match vs,ha with
      | [a],⟨h2,_⟩ =>
       obtain ⟨rfl,_⟩:=rep_x (v:=.string (str (c::d))) h2;refine (parse_raw (c::d) (by omega) hd (by simp) (fun h=>?_) (by omega) w hG).mono ?_
       .refine hf (.inr ⟨h,.inr (by omega)⟩)
       .rintro e w' ⟨rfl,hb⟩;exact ⟨_,rfl,hb,fun _ _=>⟨_,rfl,RepV.x _ rfl,RepV.x _ rfl,trivial⟩⟩
    .rw[digP,if_neg hd]at hr;subst hr;refine Ac func236 ?_;refine Wk (An @hq1 (An @hq2 qUZ51.1)) (An @hcut (An @hpu (An @hfmt @right_c))) ?_;refine Cb ?_ ?_<;>intro hc<;>(try exact ⟨⟩)
     .omega
     .refine Wk (An @hq1 (An @hq2 qUZ51.1)) (An @hcut (An @hpu (An @hfmt @right_c))) ?_;refine Cb ?_ ?_<;>intro hc<;>(try exact ⟨⟩)
      .exact absurd hc hnf
      .refine Wk (An @hq1 (An @hq2 qUZ51.1)) (An @hcut (An @hpu (An @hfmt @right_c))) ?_;refine AWp.loop (τ:=ren []) (fun k:Nat=>mkSt [(4,SD (str (c::d))),(5,B b),(33,I ((c::d).length:Nat)),(34,I k)] [] 0) (fun k=>k<=(c::d).length/\∀j,j<k->isD ((c::d).getD j 0)=true) (fun k=>(c::d).length - k) 0 ⟨Nat.zero_le _,fun j hj=>absurd hj (Nat.not_lt_zero _)⟩ (by refine Le.of (ν:=[]) (by kernel_rfl) ?_ ?_<;>((refine Lw (An @hq1 (An @hq2 qUZ51.1)) ?_;try exact ⟨⟩);try (first|omega|rfl))) fun k hk=>?_;obtain ⟨hk,hj⟩:=hk;refine Wk (An @hq1 (An @hq2 qUZ51.1)) (An @hcut (An @hpu (An @hfmt @right_c))) ?_;refine Cb ?_ ?_<;>intro hc<;>(try exact ⟨⟩)
       .have hkl:k<(c::d).length:=by omega
        refine Wk (An @hq1 (An @hq2 qUZ51.1)) (An @hcut (An @hpu (An @hfmt @right_c))) ?_;refine Cb ?_ ?_<;>intro hc<;>(try exact ⟨⟩)
        .refine Wk (An @hq1 (An @hq2 qUZ51.1)) (An @hcut (An @hpu (An @hfmt @right_c))) ?_;refine Fn @results236 (An @hq1 (An @hq2 qUZ51.1)) ?_;try exact ⟨⟩
        .have hdk:isD ((c::d).getD k 0)=true:=decide_eq_true (by omega);refine Wk (An @hq1 (An @hq2 qUZ51.1)) (An @hcut (An @hpu (An @hfmt @right_c))) ?_
         refine Za (τ:=ren []) (ν:=[]) (k+1) ⟨by omega,fun j hj2=>by
          rcases (show j<k\/j=k by omega) with h|rfl
          .exact hj j h
          .exact hdk⟩ (by omega) ?_
         refine Le.of (by kernel_rfl) ?_ ?_<;>((refine Lw (An @hq1 (An @hq2 qUZ51.1)) ?_;try exact ⟨⟩);try (first|omega|rfl))
       .exfalso;refine hd (List.all_eq_true.2 fun x hx=>?_);obtain ⟨j,hjl,rfl⟩:=List.getElem_of_mem hx;have:=hj j (by omega);rw[List.getD_eq_getElem?_getD,List.getElem?_eq_getElem hjl]at this;exact this
end NU
end
namespace NU
open Classical in
noncomputable def showL (n:Int):List UInt8:=if okN n then Lib.itoa n else []
theorem Ye {n:Int} (h:okN n):showL n=Lib.itoa n:=by rw[showL,if_pos h]
theorem showL_no {n:Int} (h:¬okN n):showL n=[]:=by rw[showL,if_neg h]
theorem wrap_i32 (n:Int) (h1:-2147483648<=n) (h2:n<=2147483647):IntKind.i32.wrap n=n:=by
 simp only[IntKind.wrap,IntKind.bits,IntKind.signed];simp;omega
theorem str_app (a b:List UInt8):str a++str b=str (a++b):=by
 apply ByteArray.ext;rw[ByteArray.data_append];apply Array.toList_inj.1;rw[Array.toList_append]
def qUZ61:=PLift.up (An @Yb (An @str_app @wrap_i32))
theorem Zz (n:Int):ACall prog 147 [] [I n] (SD (str (showL n))) []:=by
 have hq1:True:=trivial;have hq2:True:=trivial;have e1:True:=trivial;have e2:True:=trivial;have hrec:True:=trivial;have hfmt:True:=trivial;by_cases h:okN n
 .have hh:=h;unfold okN at hh;have hfmt:=fmt_c n (by omega) (by omega);have hr:=rightN_spec.2 h;rw[Ye h];refine Ac func147 ?_;refine Wk (An @hq1 (An @hq2 (An @e1 (An @e2 qUZ61.1)))) (An @hfmt (An @hrec @right_c)) ?_;refine Cb ?_ ?_<;>intro hc<;>(try exact ⟨⟩)
  .rw[hr]at hc;cases hc
  .refine Wk (An @hq1 (An @hq2 (An @e1 (An @e2 qUZ61.1)))) (An @hfmt (An @hrec @right_c)) ?_;refine Fn @results147 (An @hq1 (An @hq2 (An @e1 (An @e2 qUZ61.1)))) ?_;try exact ⟨⟩
 .have hr:=rightN_no.2 h;rw[showL_no h];refine Ac func147 ?_;refine Wk (An @hq1 (An @hq2 (An @e1 (An @e2 qUZ61.1)))) (An @hfmt (An @hrec @right_c)) ?_;refine Cb ?_ ?_<;>intro hc<;>(try exact ⟨⟩)
  .refine Wk (An @hq1 (An @hq2 (An @e1 (An @e2 qUZ61.1)))) (An @hfmt (An @hrec @right_c)) ?_;refine Fn @results147 (An @hq1 (An @hq2 (An @e1 (An @e2 qUZ61.1)))) ?_;try exact ⟨⟩
  .rw[hr]at hc;cases hc
end NU
abbrev Fld:=Int×ByteArray
abbrev flD (f:Fld):D:=.e (.a [.v (.x (.int .i64 f.1)),.v (.x (.string f.2))])
abbrev flR (l:List Fld):List (List V):=l.map fun f=>[V.x (.int .i64 f.1),V.x (.string f.2)]
abbrev flsD (l:List Fld):D:=.e (.c (.v (.s 2 (flR l))))
theorem Zc (l:List Fld) (i:Nat) (d:List V) (h:i<l.length):(l.map fun f=>[V.x (.int .i64 f.1),V.x (.string f.2)]).getD i d=[V.x (.int .i64 (l.getD i default).1),V.x (.string (l.getD i default).2)]:=by
 simp[List.getD_eq_getElem?_getD,h]
def fldB (f:Fld):Bool:=decide (1<=f.1) && decide (f.1<=9999) && decide (1<=f.2.size) && decide (f.2.size<=256) && decide (NS.ixB f.2<0)
def qFA1:=PLift.up (An @NS.ix41_c @NU.Zz)
theorem fright_c (f:Fld):ACall prog 146 [] [flD f] (B (fldB f)) []:=by
 obtain ⟨n,s⟩:=f;refine Ac func146 ?_;refine Wk @Zc qFA1.1 ?_;refine Fn @results146 @Zc ?_;try exact ⟨⟩
 unfold fldB;rw[Bool.eq_iff_iff];simp only[Bool.and_eq_true,decide_eq_true_eq,and_assoc];omega
def bytI (l:List UInt8):List Int:=l.map fun b=>(b.toNat:Int)
noncomputable def encF (f:Fld):List UInt8:=NU.showL f.1++[61]++f.2.data.toList++[1]
noncomputable def encL (l:List Fld):List UInt8:=(l.map encF).flatten
noncomputable def putF (l:List Fld):List UInt8×Int:=if l.length<=100/\l.all fldB=true then (encL l,0) else ([],if l.length<=100 then 1 else 4)
theorem encL_succ (l:List Fld) (i:Nat) (h:i<l.length):encL (l.take (i+1))=encL (l.take i)++encF (l.getD i default):=by
 unfold encL;rw[List.take_add_one,List.map_append,List.flatten_append,List.getElem?_eq_getElem h,List.getD_eq_getElem?_getD,List.getElem?_eq_getElem h];simp
abbrev byR (l:List UInt8):List (List V):=l.map fun b=>[V.x (.int .u8 (b.toNat:Int))]
theorem bytesRows_eq (s:ByteArray):bytesRows s=byR s.data.toList:=rfl
theorem show_len (n:Int):(NU.showL n).length<=21:=by
 by_cases h:NU.okN n
 .rw[NU.Ye h];unfold NU.okN at h;exact Lib.itoa_length_le n (by omega) (by omega)
 .rw[NU.showL_no h];exact Nat.zero_le _
theorem enc_len {f:Fld} (h:fldB f=true):(encF f).length<=300:=by
 simp only[fldB,Bool.and_eq_true,decide_eq_true_eq]at h;have h1:=show_len f.1;have h2:f.2.data.toList.length=f.2.size:=Array.length_toList;unfold encF;simp only[List.length_append,List.length_cons,List.length_nil];omega
theorem encL_len (l:List Fld) (h:l.all fldB=true):(encL l).length<=l.length*300:=by
 unfold encL
 induction l with
 | nil=>simp
 | cons f l ih =>
  simp only[List.all_cons,Bool.and_eq_true]at h;have h1:=enc_len h.1;have h2:=ih h.2;simp only[List.map_cons,List.flatten_cons,List.length_append,List.length_cons];omega
theorem one_by (l:List UInt8):(∀r,r∈byR l->r.length=1)=True:=eq_true fun r hr=>by
 obtain ⟨x,_,rfl⟩:=List.mem_map.1 hr;rfl
theorem take_by (l:List UInt8):List.take l.length (byR l)=byR l:=List.take_of_length_le (by rw[List.length_map];exact Nat.le_refl _)
theorem by_app (a b:List UInt8):byR a++byR b=byR (a++b):=List.map_append.symm
theorem by_61:[[V.x (.int .u8 61)]]=byR [61]:=rfl
theorem by_1:[[V.x (.int .u8 1)]]=byR [1]:=rfl
theorem by_len (l:List UInt8):(byR l).length=l.length:=List.length_map ..
theorem enc_row (a b v:List UInt8):byR (a++(b++[61]++v++[1]))=List.take (a.length+b.length+1+v.length) (List.take (a.length+b.length+1) (List.take (a.length+b.length) (byR a++byR b)++[[V.x (.int .u8 61)]])++byR v)++[[V.x (.int .u8 1)]]:=by
 have e1:List.take (a.length+b.length) (byR a++byR b)=byR a++byR b:=List.take_of_length_le (by rw[List.length_append,by_len,by_len];exact Nat.le_refl _);have e2:List.take (a.length+b.length+1) (byR a++byR b++[[V.x (.int .u8 61)]])=byR a++byR b++[[V.x (.int .u8 61)]]:=List.take_of_length_le (by rw[List.length_append,List.length_append,by_len,by_len];exact Nat.le_refl _);have e3:List.take (a.length+b.length+1+v.length) (byR a++byR b++[[V.x (.int .u8 61)]]++byR v)=byR a++byR b++[[V.x (.int .u8 61)]]++byR v:=List.take_of_length_le (by rw[List.length_append,List.length_append,List.length_append,by_len,by_len,by_len];exact Nat.le_refl _);rw[e1,e2,e3,by_61,by_1,by_app,by_app,by_app,by_app];congr 1;simp only[List.append_assoc]
theorem str_l (l:List UInt8):(NU.str l).data.toList=l:=rfl
def qFA2:=PLift.up (An @Zc (An @bytesRows_eq (An @one_by (An @by_len @str_l))))
theorem fput_c (l:List Fld) (hl:l.length<=100) (r:List UInt8×Int) (hr:putF l=r):ACall prog 90 [] [flsD l] (.t [.c (.v (.s 1 (byR r.1))),.c (.v (vI r.2))]) []:=by
 refine Ac func90 ?_;refine Wk qFA2.1 qFA1.1 ?_;refine Cb ?_ ?_<;>intro hc<;>(try exact ⟨⟩)
 .exfalso;omega
 .refine Wk qFA2.1 qFA1.1 ?_
  refine AWp.loop (fun i:Nat=>mkSt [(4,.e (.c (.o 0 (encL (l.take i)).length))),(10,flsD l),(11,I l.length),(12,I i)] [(0,.row 1 (byR (encL (l.take i))))] 1)
   (fun i=>i<=l.length/\(l.take i).all fldB=true) (fun i=>l.length - i) 0 ⟨Nat.zero_le _,rfl⟩ (by refine Le.of (τ:=[]) (ν:=[0]) (by kernel_rfl) ?_ ?_<;>((refine Lw qFA2.1 ?_;try exact ⟨⟩);try (first|omega|rfl))) fun i hi=>?_
  obtain ⟨hi,hall⟩:=hi;refine Wk qFA2.1 qFA1.1 ?_;refine Cb ?_ ?_<;>intro hc<;>(try exact ⟨⟩)
  .have hil:i<l.length:=by omega
   have hri:=fright_c (l.getD i default)
   cases hf:fldB (l.getD i default) with
   | false =>
    rw[hf]at hri;refine Wk qFA2.1 (An @hri qFA1.1) ?_;refine Cb ?_ ?_<;>intro hc<;>(try exact ⟨⟩)
    .have e:r=([],1):=by
      rw[<-hr,putF,if_neg,if_pos hl];rintro ⟨_,h⟩;rw[List.all_eq_true]at h;have:=h (l.getD i default) (by rw[List.getD_eq_getElem?_getD,List.getElem?_eq_getElem hil];exact List.getElem_mem hil);rw[hf]at this;cases this
     subst e;refine Wk qFA2.1 (An @hri qFA1.1) ?_;refine Fn @results90 qFA2.1 ?_;try exact ⟨⟩
    .contradiction
   | true =>
    rw[hf]at hri
    have hall2:(l.take (i+1)).all fldB=true:=by
     rw[List.take_add_one,List.all_append,hall,List.getElem?_eq_getElem hil];rw[List.getD_eq_getElem?_getD,List.getElem?_eq_getElem hil]at hf;simpa using hf
    have hs:=encL_succ l i hil;have hb1:=encL_len _ hall;rw[List.length_take]at hb1;have hb2:=show_len (l.getD i default).1
    have hb3:(l.getD i default).2.data.toList.length<=256:=by
     simp only[fldB,Bool.and_eq_true,decide_eq_true_eq]at hf;have:(l.getD i default).2.data.toList.length=(l.getD i default).2.size:=Array.length_toList;omega
    refine Wk qFA2.1 (An @hri qFA1.1) ?_;refine Cb ?_ ?_<;>intro hc<;>(try exact ⟨⟩)
    .contradiction
    .refine Wk qFA2.1 (An @hri qFA1.1) ?_;refine Za (τ:=ren [(0,1601)]) (ν:=[]) (i+1) ⟨by omega,hall2⟩ (by omega) ?_;refine Le.of (by kernel_rfl) ?_ ?_<;>((refine Lw qFA2.1 ?_;try exact ⟨⟩);try (first|omega|rfl))
     .rw[hs];exact enc_row _ _ _
     .rw[hs];unfold encF;simp only[List.length_append,List.length_cons,List.length_nil];omega
  .have e:i=l.length:=by omega
   subst e;rw[List.take_length]at hall;have e:r=(encL l,0):=by rw[<-hr,putF,if_pos ⟨hl,hall⟩]
   subst e;refine Wk qFA2.1 qFA1.1 ?_;refine Fs @results90 ?_;refine ⟨[],[],[],by kernel_rfl,?_,?_⟩<;>((refine Lw qFA2.1 ?_;try exact ⟨⟩);try (first|omega|rfl|exact ⟨(take_by _).symm,by rw[by_len];exact Nat.le_refl _⟩))
noncomputable abbrev strN (n:Int):ByteArray:=NU.str (NU.showL n)
def s1:ByteArray:=⟨#[49]⟩
def s0:ByteArray:=⟨#[48]⟩
def s2:ByteArray:=⟨#[50]⟩
theorem word_c (n:Int) (s:ByteArray):ACall prog 149 [] [I n,StD s] (flD (n,s)) []:=by
 refine Ac func149 ?_;refine Wk @Zc @NU.Zz ?_;refine Fn @results149 @Zc ?_;try exact ⟨⟩
def qFB1:=PLift.up (An @NU.Zz @word_c)
theorem number_c (n q:Int):ACall prog 148 [] [I n,I q] (flD (n,strN q)) []:=by
 refine Ac func148 ?_;refine Wk @Zc qFB1.1 ?_;refine Fn @results148 @Zc ?_;try exact ⟨⟩
theorem flag_c (n:Int) (b:Bool):ACall prog 150 [] [I n,B b] (flD (n,if b then s1 else s0)) []:=by
 refine Ac func150 ?_;cases b
 .refine Wk @Zc qFB1.1 ?_;refine Cb ?_ ?_<;>intro hc<;>(try exact ⟨⟩)
  .contradiction
  .refine Wk @Zc qFB1.1 ?_;refine Fn @results150 @Zc ?_;try exact ⟨⟩
   rfl
 .refine Wk @Zc qFB1.1 ?_;refine Cb ?_ ?_<;>intro hc<;>(try exact ⟨⟩)
  .refine Wk @Zc qFB1.1 ?_;refine Fn @results150 @Zc ?_;try exact ⟨⟩
   rfl
  .contradiction
theorem Zq (l l':List Fld) (n:Int) (s:ByteArray) (h:l++[(n,s)]=l') (hl:l.length<=1000):ACall prog 250 [.loc [.o 1 l.length],.row 2 (flR l)] [.p 0 0,I n,StD s] (.t []) [.loc [.o 2 l'.length],.gone,.row 2 (flR l')]:=by
 subst h;refine Ac func250 ?_;refine Wk @Zc qFB1.1 ?_;refine Fs @results250 ?_;refine ⟨[0,514],[(2,514)],[],by kernel_rfl,?_,?_⟩<;>((refine Lw @Zc ?_;try exact ⟨⟩);try (first|omega|rfl))
 exact ⟨by simp,by simp⟩
theorem Z1 (l l':List Fld) (n q:Int) (h:l++[(n,strN q)]=l') (hl:l.length<=1000):ACall prog 251 [.loc [.o 1 l.length],.row 2 (flR l)] [.p 0 0,I n,I q] (.t []) [.loc [.o 2 l'.length],.gone,.row 2 (flR l')]:=by
 have htext:=Zq l l' n (strN q) h hl;refine Ac func251 ?_;refine Wk @Zc (An @htext qFB1.1) ?_;refine Fs @results251 ?_;refine ⟨[0,258],[(2,258)],[],by kernel_rfl,?_,?_⟩<;>((refine Lw @Zc ?_;try exact ⟨⟩);try (first|omega|rfl))
noncomputable def exFl (x:Exe):List Fld:=[(17,x.id)]++(if x.ref.data.toList=[] then [] else [(19,x.ref)])++[(11,x.ord)]++[(1,x.acc)]++[(55,x.sym)]++[(54,if x.buy then s1 else s2)]++[(150,strN x.kind)]++[(32,strN x.qty)]++[(31,strN x.price)]++[(60,strN x.time)]
theorem mexec00_c (l:List Fld) (x:Exe) (hr:x.ref.data.toList=[]) (hb:x.buy=false) (hl:l.length<=50):ACall prog 252 [.loc [.o 1 l.length],.row 2 (flR l)] [.p 0 0,xD x] (.t []) [.loc [.o 2 (l++exFl x).length],.gone,.row 2 (flR (l++exFl x))]:=by
 obtain ⟨a1,e1⟩:∃a,l++[((17:Int),x.id)]=a:=⟨_,rfl⟩
 have n1:a1.length=l.length+1:=by rw[<-e1];simp
 have c1:=Zq l a1 17 x.id e1 (by omega);obtain ⟨a2,e2⟩:∃a,a1++[((11:Int),x.ord)]=a:=⟨_,rfl⟩
 have n2:a2.length=a1.length+1:=by rw[<-e2];simp
 have c2:=Zq a1 a2 11 x.ord e2 (by omega);obtain ⟨a3,e3⟩:∃a,a2++[((1:Int),x.acc)]=a:=⟨_,rfl⟩
 have n3:a3.length=a2.length+1:=by rw[<-e3];simp
 have c3:=Zq a2 a3 1 x.acc e3 (by omega);obtain ⟨a4,e4⟩:∃a,a3++[((55:Int),x.sym)]=a:=⟨_,rfl⟩
 have n4:a4.length=a3.length+1:=by rw[<-e4];simp
 have c4:=Zq a3 a4 55 x.sym e4 (by omega);obtain ⟨a5,e5⟩:∃a,a4++[((54:Int),s2)]=a:=⟨_,rfl⟩
 have n5:a5.length=a4.length+1:=by rw[<-e5];simp
 have c5:=Zq a4 a5 54 s2 e5 (by omega);obtain ⟨a6,e6⟩:∃a,a5++[((150:Int),strN x.kind)]=a:=⟨_,rfl⟩
 have n6:a6.length=a5.length+1:=by rw[<-e6];simp
 have c6:=Z1 a5 a6 150 x.kind e6 (by omega);obtain ⟨a7,e7⟩:∃a,a6++[((32:Int),strN x.qty)]=a:=⟨_,rfl⟩
 have n7:a7.length=a6.length+1:=by rw[<-e7];simp
 have c7:=Z1 a6 a7 32 x.qty e7 (by omega);obtain ⟨a8,e8⟩:∃a,a7++[((31:Int),strN x.price)]=a:=⟨_,rfl⟩
 have n8:a8.length=a7.length+1:=by rw[<-e8];simp
 have c8:=Z1 a7 a8 31 x.price e8 (by omega);obtain ⟨a9,e9⟩:∃a,a8++[((60:Int),strN x.time)]=a:=⟨_,rfl⟩
 have n9:a9.length=a8.length+1:=by rw[<-e9];simp
 have c9:=Z1 a8 a9 60 x.time e9 (by omega)
 have ef:l++exFl x=a9:=by
  unfold exFl;rw[if_pos hr,hb,<-e9,<-e8,<-e7,<-e6,<-e5,<-e4,<-e3,<-e2,<-e1];simp only[if_true,if_false,Bool.false_eq_true,List.append_assoc,List.nil_append]
 rw[ef];obtain ⟨id,ref,ord,acc,sym,kind,buy,qty,price,time⟩:=x;dsimp only at *;subst hb;refine Ac func252 ?_;refine Wk @Zc (An @c1 (An @c2 (An @c3 (An @c4 (An @c5 (An @c6 (An @c7 (An @c8 @c9)))))))) ?_;refine Cb ?_ ?_<;>intro hc<;>(try exact ⟨⟩)
 .exact absurd hr hc
 .refine Wk @Zc (An @c1 (An @c2 (An @c3 (An @c4 (An @c5 (An @c6 (An @c7 (An @c8 @c9)))))))) ?_;refine Cb ?_ ?_<;>intro hc<;>(try exact ⟨⟩)
  .contradiction
  .refine Wk @Zc (An @c1 (An @c2 (An @c3 (An @c4 (An @c5 (An @c6 (An @c7 (An @c8 @c9)))))))) ?_;refine Fs @results252 ?_;refine ⟨[0,2498],[(2,2498)],[],by kernel_rfl,?_,?_⟩<;>((refine Lw @Zc ?_;try exact ⟨⟩);try (first|omega|rfl))
theorem mexec01_c (l:List Fld) (x:Exe) (hr:x.ref.data.toList=[]) (hb:x.buy=true) (hl:l.length<=50):ACall prog 252 [.loc [.o 1 l.length],.row 2 (flR l)] [.p 0 0,xD x] (.t []) [.loc [.o 2 (l++exFl x).length],.gone,.row 2 (flR (l++exFl x))]:=by
 obtain ⟨a1,e1⟩:∃a,l++[((17:Int),x.id)]=a:=⟨_,rfl⟩
 have n1:a1.length=l.length+1:=by rw[<-e1];simp
 have c1:=Zq l a1 17 x.id e1 (by omega);obtain ⟨a2,e2⟩:∃a,a1++[((11:Int),x.ord)]=a:=⟨_,rfl⟩
 have n2:a2.length=a1.length+1:=by rw[<-e2];simp
 have c2:=Zq a1 a2 11 x.ord e2 (by omega);obtain ⟨a3,e3⟩:∃a,a2++[((1:Int),x.acc)]=a:=⟨_,rfl⟩
 have n3:a3.length=a2.length+1:=by rw[<-e3];simp
 have c3:=Zq a2 a3 1 x.acc e3 (by omega);obtain ⟨a4,e4⟩:∃a,a3++[((55:Int),x.sym)]=a:=⟨_,rfl⟩
 have n4:a4.length=a3.length+1:=by rw[<-e4];simp
 have c4:=Zq a3 a4 55 x.sym e4 (by omega);obtain ⟨a5,e5⟩:∃a,a4++[((54:Int),s1)]=a:=⟨_,rfl⟩
 have n5:a5.length=a4.length+1:=by rw[<-e5];simp
 have c5:=Zq a4 a5 54 s1 e5 (by omega);obtain ⟨a6,e6⟩:∃a,a5++[((150:Int),strN x.kind)]=a:=⟨_,rfl⟩
 have n6:a6.length=a5.length+1:=by rw[<-e6];simp
 have c6:=Z1 a5 a6 150 x.kind e6 (by omega);obtain ⟨a7,e7⟩:∃a,a6++[((32:Int),strN x.qty)]=a:=⟨_,rfl⟩
 have n7:a7.length=a6.length+1:=by rw[<-e7];simp
 have c7:=Z1 a6 a7 32 x.qty e7 (by omega);obtain ⟨a8,e8⟩:∃a,a7++[((31:Int),strN x.price)]=a:=⟨_,rfl⟩
 have n8:a8.length=a7.length+1:=by rw[<-e8];simp
 have c8:=Z1 a7 a8 31 x.price e8 (by omega);obtain ⟨a9,e9⟩:∃a,a8++[((60:Int),strN x.time)]=a:=⟨_,rfl⟩
 have n9:a9.length=a8.length+1:=by rw[<-e9];simp
 have c9:=Z1 a8 a9 60 x.time e9 (by omega)
 have ef:l++exFl x=a9:=by
  unfold exFl;rw[if_pos hr,hb,<-e9,<-e8,<-e7,<-e6,<-e5,<-e4,<-e3,<-e2,<-e1];simp only[if_true,if_false,Bool.false_eq_true,List.append_assoc,List.nil_append]
 rw[ef];obtain ⟨id,ref,ord,acc,sym,kind,buy,qty,price,time⟩:=x;dsimp only at *;subst hb;refine Ac func252 ?_;refine Wk @Zc (An @c1 (An @c2 (An @c3 (An @c4 (An @c5 (An @c6 (An @c7 (An @c8 @c9)))))))) ?_;refine Cb ?_ ?_<;>intro hc<;>(try exact ⟨⟩)
 .exact absurd hr hc
 .refine Wk @Zc (An @c1 (An @c2 (An @c3 (An @c4 (An @c5 (An @c6 (An @c7 (An @c8 @c9)))))))) ?_;refine Cb ?_ ?_<;>intro hc<;>(try exact ⟨⟩)
  .refine Wk @Zc (An @c1 (An @c2 (An @c3 (An @c4 (An @c5 (An @c6 (An @c7 (An @c8 @c9)))))))) ?_;refine Fs @results252 ?_;refine ⟨[0,2498],[(2,2498)],[],by kernel_rfl,?_,?_⟩<;>((refine Lw @Zc ?_;try exact ⟨⟩);try (first|omega|rfl))
  .contradiction
theorem mexec10_c (l:List Fld) (x:Exe) (hr:x.ref.data.toList≠[]) (hb:x.buy=false) (hl:l.length<=50):ACall prog 252 [.loc [.o 1 l.length],.row 2 (flR l)] [.p 0 0,xD x] (.t []) [.loc [.o 2 (l++exFl x).length],.gone,.row 2 (flR (l++exFl x))]:=by
 obtain ⟨a1,e1⟩:∃a,l++[((17:Int),x.id)]=a:=⟨_,rfl⟩
 have n1:a1.length=l.length+1:=by rw[<-e1];simp
 have c1:=Zq l a1 17 x.id e1 (by omega);obtain ⟨a2,e2⟩:∃a,a1++[((19:Int),x.ref)]=a:=⟨_,rfl⟩
 have n2:a2.length=a1.length+1:=by rw[<-e2];simp
 have c2:=Zq a1 a2 19 x.ref e2 (by omega);obtain ⟨a3,e3⟩:∃a,a2++[((11:Int),x.ord)]=a:=⟨_,rfl⟩
 have n3:a3.length=a2.length+1:=by rw[<-e3];simp
 have c3:=Zq a2 a3 11 x.ord e3 (by omega);obtain ⟨a4,e4⟩:∃a,a3++[((1:Int),x.acc)]=a:=⟨_,rfl⟩
 have n4:a4.length=a3.length+1:=by rw[<-e4];simp
 have c4:=Zq a3 a4 1 x.acc e4 (by omega);obtain ⟨a5,e5⟩:∃a,a4++[((55:Int),x.sym)]=a:=⟨_,rfl⟩
 have n5:a5.length=a4.length+1:=by rw[<-e5];simp
 have c5:=Zq a4 a5 55 x.sym e5 (by omega);obtain ⟨a6,e6⟩:∃a,a5++[((54:Int),s2)]=a:=⟨_,rfl⟩
 have n6:a6.length=a5.length+1:=by rw[<-e6];simp
 have c6:=Zq a5 a6 54 s2 e6 (by omega);obtain ⟨a7,e7⟩:∃a,a6++[((150:Int),strN x.kind)]=a:=⟨_,rfl⟩
 have n7:a7.length=a6.length+1:=by rw[<-e7];simp
 have c7:=Z1 a6 a7 150 x.kind e7 (by omega);obtain ⟨a8,e8⟩:∃a,a7++[((32:Int),strN x.qty)]=a:=⟨_,rfl⟩
 have n8:a8.length=a7.length+1:=by rw[<-e8];simp
 have c8:=Z1 a7 a8 32 x.qty e8 (by omega);obtain ⟨a9,e9⟩:∃a,a8++[((31:Int),strN x.price)]=a:=⟨_,rfl⟩
 have n9:a9.length=a8.length+1:=by rw[<-e9];simp
 have c9:=Z1 a8 a9 31 x.price e9 (by omega);obtain ⟨a10,e10⟩:∃a,a9++[((60:Int),strN x.time)]=a:=⟨_,rfl⟩
 have n10:a10.length=a9.length+1:=by rw[<-e10];simp
 have c10:=Z1 a9 a10 60 x.time e10 (by omega)
 have ef:l++exFl x=a10:=by
  unfold exFl;rw[if_neg hr,hb,<-e10,<-e9,<-e8,<-e7,<-e6,<-e5,<-e4,<-e3,<-e2,<-e1];simp only[if_true,if_false,Bool.false_eq_true,List.append_assoc,List.nil_append]
 rw[ef];obtain ⟨id,ref,ord,acc,sym,kind,buy,qty,price,time⟩:=x;dsimp only at *;subst hb;refine Ac func252 ?_;refine Wk @Zc (An @c1 (An @c2 (An @c3 (An @c4 (An @c5 (An @c6 (An @c7 (An @c8 (An @c9 @c10))))))))) ?_;refine Cb ?_ ?_<;>intro hc<;>(try exact ⟨⟩)
 .refine Wk @Zc (An @c1 (An @c2 (An @c3 (An @c4 (An @c5 (An @c6 (An @c7 (An @c8 (An @c9 @c10))))))))) ?_;refine Cb ?_ ?_<;>intro hc<;>(try exact ⟨⟩)
  .contradiction
  .refine Wk @Zc (An @c1 (An @c2 (An @c3 (An @c4 (An @c5 (An @c6 (An @c7 (An @c8 (An @c9 @c10))))))))) ?_;refine Fs @results252 ?_;refine ⟨[0,2754],[(2,2754)],[],by kernel_rfl,?_,?_⟩<;>((refine Lw @Zc ?_;try exact ⟨⟩);try (first|omega|rfl))
 .exact absurd hc hr
theorem mexec11_c (l:List Fld) (x:Exe) (hr:x.ref.data.toList≠[]) (hb:x.buy=true) (hl:l.length<=50):ACall prog 252 [.loc [.o 1 l.length],.row 2 (flR l)] [.p 0 0,xD x] (.t []) [.loc [.o 2 (l++exFl x).length],.gone,.row 2 (flR (l++exFl x))]:=by
 obtain ⟨a1,e1⟩:∃a,l++[((17:Int),x.id)]=a:=⟨_,rfl⟩
 have n1:a1.length=l.length+1:=by rw[<-e1];simp
 have c1:=Zq l a1 17 x.id e1 (by omega);obtain ⟨a2,e2⟩:∃a,a1++[((19:Int),x.ref)]=a:=⟨_,rfl⟩
 have n2:a2.length=a1.length+1:=by rw[<-e2];simp
 have c2:=Zq a1 a2 19 x.ref e2 (by omega);obtain ⟨a3,e3⟩:∃a,a2++[((11:Int),x.ord)]=a:=⟨_,rfl⟩
 have n3:a3.length=a2.length+1:=by rw[<-e3];simp
 have c3:=Zq a2 a3 11 x.ord e3 (by omega);obtain ⟨a4,e4⟩:∃a,a3++[((1:Int),x.acc)]=a:=⟨_,rfl⟩
 have n4:a4.length=a3.length+1:=by rw[<-e4];simp
 have c4:=Zq a3 a4 1 x.acc e4 (by omega);obtain ⟨a5,e5⟩:∃a,a4++[((55:Int),x.sym)]=a:=⟨_,rfl⟩
 have n5:a5.length=a4.length+1:=by rw[<-e5];simp
 have c5:=Zq a4 a5 55 x.sym e5 (by omega);obtain ⟨a6,e6⟩:∃a,a5++[((54:Int),s1)]=a:=⟨_,rfl⟩
 have n6:a6.length=a5.length+1:=by rw[<-e6];simp
 have c6:=Zq a5 a6 54 s1 e6 (by omega);obtain ⟨a7,e7⟩:∃a,a6++[((150:Int),strN x.kind)]=a:=⟨_,rfl⟩
 have n7:a7.length=a6.length+1:=by rw[<-e7];simp
 have c7:=Z1 a6 a7 150 x.kind e7 (by omega);obtain ⟨a8,e8⟩:∃a,a7++[((32:Int),strN x.qty)]=a:=⟨_,rfl⟩
 have n8:a8.length=a7.length+1:=by rw[<-e8];simp
 have c8:=Z1 a7 a8 32 x.qty e8 (by omega);obtain ⟨a9,e9⟩:∃a,a8++[((31:Int),strN x.price)]=a:=⟨_,rfl⟩
 have n9:a9.length=a8.length+1:=by rw[<-e9];simp
 have c9:=Z1 a8 a9 31 x.price e9 (by omega);obtain ⟨a10,e10⟩:∃a,a9++[((60:Int),strN x.time)]=a:=⟨_,rfl⟩
 have n10:a10.length=a9.length+1:=by rw[<-e10];simp
 have c10:=Z1 a9 a10 60 x.time e10 (by omega)
 have ef:l++exFl x=a10:=by
  unfold exFl;rw[if_neg hr,hb,<-e10,<-e9,<-e8,<-e7,<-e6,<-e5,<-e4,<-e3,<-e2,<-e1];simp only[if_true,if_false,Bool.false_eq_true,List.append_assoc,List.nil_append]
 rw[ef];obtain ⟨id,ref,ord,acc,sym,kind,buy,qty,price,time⟩:=x;dsimp only at *;subst hb;refine Ac func252 ?_;refine Wk @Zc (An @c1 (An @c2 (An @c3 (An @c4 (An @c5 (An @c6 (An @c7 (An @c8 (An @c9 @c10))))))))) ?_;refine Cb ?_ ?_<;>intro hc<;>(try exact ⟨⟩)
 .refine Wk @Zc (An @c1 (An @c2 (An @c3 (An @c4 (An @c5 (An @c6 (An @c7 (An @c8 (An @c9 @c10))))))))) ?_;refine Cb ?_ ?_<;>intro hc<;>(try exact ⟨⟩)
  .refine Wk @Zc (An @c1 (An @c2 (An @c3 (An @c4 (An @c5 (An @c6 (An @c7 (An @c8 (An @c9 @c10))))))))) ?_;refine Fs @results252 ?_;refine ⟨[0,2754],[(2,2754)],[],by kernel_rfl,?_,?_⟩<;>((refine Lw @Zc ?_;try exact ⟨⟩);try (first|omega|rfl))
  .contradiction
 .exact absurd hc hr
theorem mexec_c (l:List Fld) (x:Exe) (hl:l.length<=50):ACall prog 252 [.loc [.o 1 l.length],.row 2 (flR l)] [.p 0 0,xD x] (.t []) [.loc [.o 2 (l++exFl x).length],.gone,.row 2 (flR (l++exFl x))]:=by
 by_cases hr:x.ref.data.toList=[]
 .cases hb:x.buy with
  | false=>exact mexec00_c l x hr hb hl
  | true=>exact mexec01_c l x hr hb hl
 .cases hb:x.buy with
  | false=>exact mexec10_c l x hr hb hl
  | true=>exact mexec11_c l x hr hb hl
end Eng
end Go.Proofs.YtgenjpingdkmgaaGreatDoor
