/- Contracts of functions that this seat's law calls. No condition. -/
import Derived.ProofKit
import Derived.Test.YtgenjpingdkmgaaGreatDoorG10
set_option maxRecDepth 100000
set_option linter.unusedSimpArgs false
set_option linter.unusedVariables false
namespace Go.Proofs.YtgenjpingdkmgaaGreatDoor
namespace Eng
theorem CallS.of {P:Program} {q:Bool} {f:Nat} {bi:List Blk} {args:List D} {K:D->List Blk->Prop} {val:D} {bo:List Blk} (h:ACall P f bi args val bo) (k:K val bo):CallS P q f bi args K:=⟨val,bo,fun _=>.inl h,k⟩
theorem CallS.of_if {P:Program} {q:Bool} {f:Nat} {bi:List Blk} {args:List D} {K:D->List Blk->Prop} {val:D} {bo:List Blk} (h:q=true->ACall P f bi args val bo) (k:K val bo):CallS P q f bi args K:=⟨val,bo,fun hq=>.inl (h hq),k⟩
theorem CallS.ext {P:Program} {q:Bool} {f:Nat} {bi:List Blk} {args:List D} {K:D->List Blk->Prop} {val:D} {bo:List Blk} (h:XCall P f bi args val bo) (k:K val bo):CallS P q f bi args K:=⟨val,bo,fun _=>.inr h,k⟩
def CP:C->C->Prop
 | .v a,.v b=>VLe a b
 | _,_=>False
def CsP:List C->List C->Prop
 | [],[]=>True
 | a::as,b::bs=>CP a b/\CsP as bs
 | _,_=>False
def DP:D->D->Prop
 | .e (.c a),.e (.c b)=>CP a b
 | .e (.a as),.e (.a bs)=>CsP as bs
 | _,_=>False
def DsP:List D->List D->Prop
 | [],[]=>True
 | a::as,b::bs=>DP a b/\DsP as bs
 | _,_=>False
theorem q_P:(∀a b,CP (.v a) (.v b)=VLe a b)/\CsP [] []=True/\(∀a as b bs,CsP (a::as) (b::bs)=(CP a b/\CsP as bs))/\(∀a b,DP (.e (.c a)) (.e (.c b))=CP a b)/\(∀as bs,DP (.e (.a as)) (.e (.a bs))=CsP as bs) /\
 DsP [] []=True/\(∀a as b bs,DsP (a::as) (b::bs)=(DP a b/\DsP as bs)):=⟨fun _ _=>rfl,rfl,fun _ _ _ _=>rfl,fun _ _=>rfl,fun _ _=>rfl,rfl,fun _ _ _ _=>rfl⟩
theorem CP.rep {w:World} {ow:Nat->Prop} {ρ:Nat->Option Pl} {a b:C} {u:Value} (h:CP a b) (hb:RepC w ow ρ b u):RepC w ow ρ a u:=by
 cases a with
 | v a=>cases b with
  | v b=>exact VLe.rep0 h hb
  | o _ _=>exact h.elim
 | o _ _=>exact h.elim
theorem CsP.rep {w:World} {ow:Nat->Prop} {ρ:Nat->Option Pl}:∀ {as bs:List C} {us:List Value},CsP as bs->All2 (RepC w ow ρ) bs us->All2 (RepC w ow ρ) as us
 | [],[],[],_,_=>trivial
 | _::_,_::_,_::_,h,hb=>⟨CP.rep h.1 hb.1,CsP.rep h.2 hb.2⟩
 | [],_::_,_,h,_=>h.elim
 | _::_,[],_,h,_=>h.elim
 | [],[],_::_,_,hb=>hb.elim
 | _::_,_::_,[],_,hb=>hb.elim
theorem DP.rep {w:World} {ow:Nat->Prop} {ρ:Nat->Option Pl} {a b:D} {u:Value} (h:DP a b) (hb:RepD w ow ρ b u):RepD w ow ρ a u:=by
 cases a with
 | e a=>cases b with
  | e b=>cases a<;>cases b
         .exact CP.rep h hb
         .exact h.elim
         .exact h.elim
         .obtain ⟨us,hu,hb⟩:=hb;exact ⟨us,hu,CsP.rep h hb⟩
  | _=>cases a<;>exact h.elim
 | _=>exact h.elim
theorem DsP.rep {w:World} {ow:Nat->Prop} {ρ:Nat->Option Pl}:∀ {as bs:List D} {us:List Value},DsP as bs->All2 (RepD w ow ρ) bs us->All2 (RepD w ow ρ) as us
 | [],[],[],_,_=>trivial
 | _::_,_::_,_::_,h,hb=>⟨DP.rep h.1 hb.1,DsP.rep h.2 hb.2⟩
 | [],_::_,_,h,_=>h.elim
 | _::_,[],_,h,_=>h.elim
 | [],[],_::_,_,hb=>hb.elim
 | _::_,_::_,[],_,hb=>hb.elim
theorem ACall.args {P:Program} {f:Nat} {bi:List Blk} {as bs:List D} {val:D} {bo:List Blk} (h:ACall P f bi as val bo) (hl:DsP as bs):ACall P f bi bs val bo :=
 ⟨h.1,fun own0 w ρ vs hm ha=>h.2 own0 w ρ vs hm (DsP.rep hl ha)⟩
theorem CallS.le {P:Program} {q:Bool} {f:Nat} {bi:List Blk} {as bs:List D} {K:D->List Blk->Prop} {val:D} {bo:List Blk} (h:ACall P f bi as val bo) (hl:DsP as bs) (k:K val bo):CallS P q f bi bs K:=⟨val,bo,fun _=>.inl (h.args hl),k⟩
theorem Za {β:Type} {m0:Nat} {S:β->St} {p:β->Prop} {μ:β->Nat} {b:β} {Q:Exit->St->Prop} {st:St} (b':β) {τ:Nat->Nat} {ν:List Nat} (hp:p b') (hm:μ b'<μ b) (hl:Le m0 τ ν st (S b')):roundQ m0 S p μ b Q .normal st:=⟨b',τ,ν,hp,hm,hl⟩
theorem getD_map {α:Type} [Inhabited α] (f:α->List V) (xs:List α) (i:Nat) (h:i<xs.length):(xs.map f).getD i []=f (xs.getD i default):=by
 simp[List.getD_eq_getElem?_getD,h]
theorem rowAt_map {α:Type} [Inhabited α] (f:α->List V) (xs:List α) (ty:Ty) (i off:Nat) (h:i<xs.length):rowAt ty (xs.map f) i off=(f (xs.getD i default)).drop off:=by
 unfold rowAt;simp[List.getD_eq_getElem?_getD,h]
theorem getD_rI (xs:List Int) (i:Nat):(xs.map fun n=>[V.x (.int .i64 n)]).getD i [V.x (.int .i64 0)]=[V.x (.int .i64 (xs.getD i 0))]:=by
 simp only[List.getD_eq_getElem?_getD,List.getElem?_map];cases xs[i]?<;>rfl
theorem getD_rB (xs:List Int) (i:Nat):(xs.map fun n=>[V.x (.int .u8 n)]).getD i [V.x (.int .u8 0)]=[V.x (.int .u8 (xs.getD i 0))]:=by
 simp only[List.getD_eq_getElem?_getD,List.getElem?_map];cases xs[i]?<;>rfl
theorem Zn (x:Int) (h1:-9223372036854775808<=x) (h2:x<=9223372036854775807):IntKind.i64.wrap x=x:=by
 simp only[IntKind.wrap,IntKind.bits,IntKind.signed];simp;omega
theorem wrap_u64 (x:Int) (h1:0<=x) (h2:x<=18446744073709551615):IntKind.u64.wrap x=x:=by
 simp only[IntKind.wrap,IntKind.bits,IntKind.signed];simp;omega
theorem wrap_u32 (x:Int) (h1:0<=x) (h2:x<=4294967295):IntKind.u32.wrap x=x:=by
 simp only[IntKind.wrap,IntKind.bits,IntKind.signed];simp;omega
theorem wrap_u8 (x:Int) (h1:0<=x) (h2:x<=255):IntKind.u8.wrap x=x:=by
 simp only[IntKind.wrap,IntKind.bits,IntKind.signed];simp;omega
theorem and32 (x:Int) (h1:0<=x) (h2:x<=18446744073709551615):IntKind.u64.wrap ((BitVec.ofInt IntKind.u64.bits x &&& BitVec.ofInt IntKind.u64.bits 4294967295).toNat)=x % 4294967296:=by
 obtain ⟨n,rfl⟩:∃n:Nat,x=n:=⟨x.toNat,by omega⟩
 have e1:(BitVec.ofInt IntKind.u64.bits (n:Int) &&& BitVec.ofInt IntKind.u64.bits 4294967295).toNat=n % 4294967296:=by
  rw[BitVec.toNat_and]
  have a:(BitVec.ofInt IntKind.u64.bits (n:Int)).toNat=n:=by
   rw[show (n:Int)=((n:Nat):Int) from rfl,BitVec.ofInt_natCast,BitVec.toNat_ofNat];exact Nat.mod_eq_of_lt (by show n<18446744073709551616;omega)
  have b:(BitVec.ofInt IntKind.u64.bits 4294967295).toNat=4294967295:=by decide
  rw[a,b];exact Nat.and_two_pow_sub_one_eq_mod n 32
 rw[e1,wrap_u64 _ (by omega) (by omega)];omega
theorem shr32 (x:Int):x.fdiv (2 ^ (min (Int.toNat 32) IntKind.u64.bits))=x / 4294967296:=by
 have:(2:Int) ^ (min (Int.toNat 32) IntKind.u64.bits)=4294967296:=by decide
 rw[this,Int.fdiv_eq_ediv_of_nonneg _ (by omega)]
theorem Zi {α β:Type} (f:α->β) (xs:List α):(xs.map f).take xs.length=xs.map f:=List.take_of_length_le (by simp)
theorem toNat_cast (n:Nat):(n:Int).toNat=n:=rfl
def strB (xs:List Int):ByteArray:=⟨(xs.map fun n=>UInt8.ofNat n.toNat).toArray⟩
theorem strRows_map (xs:List Int):strRows (xs.map fun n=>[V.x (.int .u8 n)])=strB xs:=by
 simp only[strRows,strB,List.map_map];rfl
theorem areBytes_map (xs:List Int):areBytes (xs.map fun n=>[V.x (.int .u8 n)])=True:=by
 refine eq_true fun r hr=>?_;obtain ⟨n,_,rfl⟩:=List.mem_map.1 hr;exact trivial
theorem q_lapp {α:Type}:(∀b:List α,List.append [] b=b)/\(∀(a:α) (l b:List α),List.append (a::l) b=a::List.append l b):=⟨fun _=>rfl,fun _ _ _=>rfl⟩
theorem among2 {α:Type} (q:Bool) (i:Int) (f:Nat->Tr α):among q i f 2=.ite (decide (i=1)) (f 1) (.ask (q=true->i=0) (f 0)):=rfl
theorem getD_mapD {α:Type} [Inhabited α] (f:α->List V) (xs:List α) (i:Nat) (d:List V) (h:i<xs.length):(xs.map f).getD i d=f (xs.getD i default):=by
 simp[List.getD_eq_getElem?_getD,h]
theorem take_m {α:Type} (f:α->List V) (xs:List α) (n:Nat):(xs.map f).take n=(xs.take n).map f:=by rw[List.map_take]
def nO (_:Nat):Bool:=false
theorem nO_eq (f:Nat):nO f=false:=rfl
def oF:List Nat->Nat->Bool
 | [],_=>false
 | a::l,f=>(f == a) || oF l f
theorem oF_eq:(∀f,oF [] f=false)/\∀a l f,oF (a::l) f=((f == a) || oF l f):=⟨fun _=>rfl,fun _ _ _=>rfl⟩
theorem Z8:(default:Int)=0:=rfl
abbrev vI (n:Int):V:=.x (.int .i64 n)
abbrev I (n:Int):D:=.e (.c (.v (.x (.int .i64 n))))
abbrev B (b:Bool):D:=.e (.c (.v (.x (.bool b))))
abbrev sI (xs:List Int):V:=.s 1 (xs.map fun n=>[.x (.int .i64 n)])
abbrev sB (xs:List Int):V:=.s 1 (xs.map fun n=>[.x (.int .u8 n)])
theorem Zo:type_of% (And.intro @List.size_toArray.{0} (And.intro @upd_app (And.intro @q_mk (And.intro @q_ofL (And.intro @q_sat (And.intro @q_callE (And.intro @q_callP (And.intro @q_callN (And.intro @q_okHand (And.intro @rowAt_map (And.intro @q_full (And.intro @q_pass (And.intro @q_frzD (And.intro @q_hand (And.intro @q_contC (And.intro @q_plain (And.intro @q_ren (And.intro @q_need (And.intro @q_needO (And.intro @q_evO (And.intro @q_op (And.intro @q_lapp (And.intro @q_nil (And.intro @q_ncK (And.intro @q_mkS (And.intro @q_mkT (And.intro @q_bA (And.intro @q_bAg (And.intro @q_bN (And.intro @q_bNn (And.intro @q_cN (And.intro @q_eqs (And.intro @q_opf (And.intro @q_mf (And.intro @q_caps (And.intro @q_cv (And.intro @q_cut (And.intro @q_app (And.intro @q_cl (And.intro @q_bi (And.intro @q_n (And.intro @q_w (And.intro @q_K (And.intro @q_goN (And.intro @q_goS (And.intro @q_go0 (And.intro @q_gS0 (And.intro @q_put (And.intro @q_updL (And.intro @q_small (And.intro @q_ds (And.intro @q_bin (And.intro @q_binB (And.intro @q_isB (And.intro @q_binS (And.intro @q_strOp (And.intro @q_un (And.intro @q_pick (And.intro @q_load (And.intro @q_store (And.intro @q_pick1 (And.intro @q_agg (And.intro @q_fA (And.intro @q_fE (And.intro @q_shift (And.intro @q_cells (And.intro @q_frz (And.intro @q_ext (And.intro @q_rowsOf (And.intro @Z7 (And.intro @List.getD_cons_zero.{0} (And.intro @List.getD_cons_succ.{0} (And.intro @List.getElem?_cons_zero.{0} (And.intro @List.getElem?_cons_succ.{0} (And.intro @List.toList_toArray.{0} (And.intro @List.getElem?_toArray.{0} (And.intro @List.map_cons.{0,0} (And.intro @List.map_nil.{0,0} (And.intro @List.zip_cons_cons.{0,0} (And.intro @List.zip_nil_right.{0,0} (And.intro @List.zip_nil_left.{0,0} (And.intro @List.flatMap_cons.{0,0} (And.intro @List.flatMap_nil.{0,0} (And.intro @List.all_nil.{0} (And.intro @List.all_cons.{0} (And.intro @Option.bind_some.{0,0} (And.intro @Option.map_some.{0,0} (And.intro @Option.map_none.{0,0} (And.intro @Option.getD_some.{0} (And.intro @List.length_cons.{0} (And.intro @List.length_nil.{0} (And.intro @List.length_map.{0,0} (And.intro @List.take_succ_cons.{0} (And.intro @List.take_zero.{0} (And.intro @List.drop_succ_cons.{0} (And.intro @List.drop_zero.{0} (And.intro @List.headD_cons.{0} (And.intro @List.cons_append.{0} (And.intro @List.nil_append.{0} (And.intro @List.append_nil.{0} (And.intro @true_and (And.intro @and_true (And.intro @true_implies (And.intro @Bool.true_and (And.intro @Bool.and_true (And.intro @Bool.false_and (And.intro @Bool.and_false (And.intro @decide_true (And.intro @Bool.false_eq_true (And.intro @not_false_eq_true (And.intro @imp_self (And.intro @beq_true (And.intro @beq_false (And.intro @Bool.not_eq_true' (And.intro @Bool.if_false_left (And.intro @toNat_cast (And.intro @Nat.zero_add (@Nat.add_zero)))))))))))))))))))))))))))))))))))))))))))))))))))))))))))))))))))))))))))))))))))))))))))))))))))))))))))))))))))))):=And.intro @List.size_toArray.{0} (And.intro @upd_app (And.intro @q_mk (And.intro @q_ofL (And.intro @q_sat (And.intro @q_callE (And.intro @q_callP (And.intro @q_callN (And.intro @q_okHand (And.intro @rowAt_map (And.intro @q_full (And.intro @q_pass (And.intro @q_frzD (And.intro @q_hand (And.intro @q_contC (And.intro @q_plain (And.intro @q_ren (And.intro @q_need (And.intro @q_needO (And.intro @q_evO (And.intro @q_op (And.intro @q_lapp (And.intro @q_nil (And.intro @q_ncK (And.intro @q_mkS (And.intro @q_mkT (And.intro @q_bA (And.intro @q_bAg (And.intro @q_bN (And.intro @q_bNn (And.intro @q_cN (And.intro @q_eqs (And.intro @q_opf (And.intro @q_mf (And.intro @q_caps (And.intro @q_cv (And.intro @q_cut (And.intro @q_app (And.intro @q_cl (And.intro @q_bi (And.intro @q_n (And.intro @q_w (And.intro @q_K (And.intro @q_goN (And.intro @q_goS (And.intro @q_go0 (And.intro @q_gS0 (And.intro @q_put (And.intro @q_updL (And.intro @q_small (And.intro @q_ds (And.intro @q_bin (And.intro @q_binB (And.intro @q_isB (And.intro @q_binS (And.intro @q_strOp (And.intro @q_un (And.intro @q_pick (And.intro @q_load (And.intro @q_store (And.intro @q_pick1 (And.intro @q_agg (And.intro @q_fA (And.intro @q_fE (And.intro @q_shift (And.intro @q_cells (And.intro @q_frz (And.intro @q_ext (And.intro @q_rowsOf (And.intro @Z7 (And.intro @List.getD_cons_zero.{0} (And.intro @List.getD_cons_succ.{0} (And.intro @List.getElem?_cons_zero.{0} (And.intro @List.getElem?_cons_succ.{0} (And.intro @List.toList_toArray.{0} (And.intro @List.getElem?_toArray.{0} (And.intro @List.map_cons.{0,0} (And.intro @List.map_nil.{0,0} (And.intro @List.zip_cons_cons.{0,0} (And.intro @List.zip_nil_right.{0,0} (And.intro @List.zip_nil_left.{0,0} (And.intro @List.flatMap_cons.{0,0} (And.intro @List.flatMap_nil.{0,0} (And.intro @List.all_nil.{0} (And.intro @List.all_cons.{0} (And.intro @Option.bind_some.{0,0} (And.intro @Option.map_some.{0,0} (And.intro @Option.map_none.{0,0} (And.intro @Option.getD_some.{0} (And.intro @List.length_cons.{0} (And.intro @List.length_nil.{0} (And.intro @List.length_map.{0,0} (And.intro @List.take_succ_cons.{0} (And.intro @List.take_zero.{0} (And.intro @List.drop_succ_cons.{0} (And.intro @List.drop_zero.{0} (And.intro @List.headD_cons.{0} (And.intro @List.cons_append.{0} (And.intro @List.nil_append.{0} (And.intro @List.append_nil.{0} (And.intro @true_and (And.intro @and_true (And.intro @true_implies (And.intro @Bool.true_and (And.intro @Bool.and_true (And.intro @Bool.false_and (And.intro @Bool.and_false (And.intro @decide_true (And.intro @Bool.false_eq_true (And.intro @not_false_eq_true (And.intro @imp_self (And.intro @beq_true (And.intro @beq_false (And.intro @Bool.not_eq_true' (And.intro @Bool.if_false_left (And.intro @toNat_cast (And.intro @Nat.zero_add (@Nat.add_zero)))))))))))))))))))))))))))))))))))))))))))))))))))))))))))))))))))))))))))))))))))))))))))))))))))))))))))))))))))))
theorem Zf:type_of% (And.intro @Bool.or_eq_true (And.intro @Bool.and_eq_true (And.intro @decide_eq_true_eq (And.intro @Bool.or_eq_false_iff (And.intro @Bool.and_eq_false_iff (And.intro @decide_eq_false_iff_not (And.intro @Bool.not_eq_true' (And.intro @Bool.not_eq_false' (And.intro @beq_iff_eq.{0} (And.intro @bne_iff_ne.{0} (And.intro @beq_eq_false_iff_ne.{0} (And.intro @bne_eq_false_iff_eq.{0} (And.intro @Bool.not_eq_eq_eq_not (And.intro @Bool.not_true (@Bool.not_false))))))))))))))):=And.intro @Bool.or_eq_true (And.intro @Bool.and_eq_true (And.intro @decide_eq_true_eq (And.intro @Bool.or_eq_false_iff (And.intro @Bool.and_eq_false_iff (And.intro @decide_eq_false_iff_not (And.intro @Bool.not_eq_true' (And.intro @Bool.not_eq_false' (And.intro @beq_iff_eq.{0} (And.intro @bne_iff_ne.{0} (And.intro @beq_eq_false_iff_ne.{0} (And.intro @bne_eq_false_iff_eq.{0} (And.intro @Bool.not_eq_eq_eq_not (And.intro @Bool.not_true (@Bool.not_false))))))))))))))
theorem Zx:type_of% (And.intro @q_ice (And.intro @q_le (And.intro @q_Le (And.intro @q_VLe (And.intro @q_BLe (And.intro @q_empty (And.intro @q_mk (And.intro @q_ofL (And.intro @upd_app (And.intro @and_true (And.intro @true_and (And.intro @List.getD_cons_zero.{0} (And.intro @List.getD_cons_succ.{0} (And.intro @List.contains_nil.{0} (And.intro @List.contains_cons.{0} (And.intro @BEq.rfl.{0} (And.intro @Bool.true_or (And.intro @Bool.or_false (And.intro @List.getElem?_cons_zero.{0} (And.intro @Int.ofNat_zero (And.intro @Int.natCast_add (And.intro @Int.natCast_one (And.intro @Int.cast_ofNat_Int (And.intro @Bool.false_eq_true (And.intro @Option.isSome_some.{0} (And.intro @V.x.injEq (And.intro @Value.int.injEq (And.intro @Value.bool.injEq (And.intro @Value.string.injEq (And.intro @List.map_cons.{0,0} (And.intro @List.map_nil.{0,0} (And.intro @List.length_map.{0,0} (@Nat.le_refl))))))))))))))))))))))))))))))))):=And.intro @q_ice (And.intro @q_le (And.intro @q_Le (And.intro @q_VLe (And.intro @q_BLe (And.intro @q_empty (And.intro @q_mk (And.intro @q_ofL (And.intro @upd_app (And.intro @and_true (And.intro @true_and (And.intro @List.getD_cons_zero.{0} (And.intro @List.getD_cons_succ.{0} (And.intro @List.contains_nil.{0} (And.intro @List.contains_cons.{0} (And.intro @BEq.rfl.{0} (And.intro @Bool.true_or (And.intro @Bool.or_false (And.intro @List.getElem?_cons_zero.{0} (And.intro @Int.ofNat_zero (And.intro @Int.natCast_add (And.intro @Int.natCast_one (And.intro @Int.cast_ofNat_Int (And.intro @Bool.false_eq_true (And.intro @Option.isSome_some.{0} (And.intro @V.x.injEq (And.intro @Value.int.injEq (And.intro @Value.bool.injEq (And.intro @Value.string.injEq (And.intro @List.map_cons.{0,0} (And.intro @List.map_nil.{0,0} (And.intro @List.length_map.{0,0} (@Nat.le_refl))))))))))))))))))))))))))))))))
theorem fe_all:type_of% (And.intro @q_Fin (And.intro @q_res (And.intro @q_onRes (And.intro @q_load (And.intro @q_pick1 (And.intro @q_agg (And.intro @Option.map_some.{0,0} (And.intro @List.toList_toArray.{0} (And.intro @List.drop_zero.{0} (And.intro @List.drop_succ_cons.{0} (And.intro @List.take_succ_cons.{0} (And.intro @List.take_zero.{0} (And.intro @List.length_cons.{0} (And.intro @List.length_nil.{0} (And.intro @List.headD_cons.{0} (And.intro @List.map_id.{0} (And.intro @Nat.zero_add (@Nat.le_refl)))))))))))))))))):=And.intro @q_Fin (And.intro @q_res (And.intro @q_onRes (And.intro @q_load (And.intro @q_pick1 (And.intro @q_agg (And.intro @Option.map_some.{0,0} (And.intro @List.toList_toArray.{0} (And.intro @List.drop_zero.{0} (And.intro @List.drop_succ_cons.{0} (And.intro @List.take_succ_cons.{0} (And.intro @List.take_zero.{0} (And.intro @List.length_cons.{0} (And.intro @List.length_nil.{0} (And.intro @List.headD_cons.{0} (And.intro @List.map_id.{0} (And.intro @Nat.zero_add (@Nat.le_refl)))))))))))))))))
theorem Zp:type_of% (And.intro @Nat.mul_one (And.intro @Int.mul_one (And.intro @nO_eq (And.intro @oF_eq (And.intro @Bool.true_or (And.intro @Bool.false_or (And.intro @Bool.or_false (And.intro @Z8 (And.intro @decide_false (And.intro @Bool.false_eq_true (And.intro @false_implies (And.intro @Bool.not_true (And.intro @Bool.not_false (And.intro @BEq.rfl.{0} (And.intro @Zi (And.intro @List.take_length.{0} (@Zn))))))))))))))))):=And.intro @Nat.mul_one (And.intro @Int.mul_one (And.intro @nO_eq (And.intro @oF_eq (And.intro @Bool.true_or (And.intro @Bool.false_or (And.intro @Bool.or_false (And.intro @Z8 (And.intro @decide_false (And.intro @Bool.false_eq_true (And.intro @false_implies (And.intro @Bool.not_true (And.intro @Bool.not_false (And.intro @BEq.rfl.{0} (And.intro @Zi (And.intro @List.take_length.{0} (@Zn))))))))))))))))
section
open Go.ChangeShapes Go.WideShapes Go.ChangeAt Go.RowKit
def Rd (P:Program) (t:TypeId) (Pred:List V->Prop):Prop :=
 ∀(W:World) (H:Type) (enc:TypeId×Value->H) (fuel:Nat) (cs:List Value) (x:DataW H×List MemPlace),DataW.trod enc P W 0 (fun _=>true) true fuel t cs=some x->∃vs,Pred vs/\All2 (RepV W fun _=>False) vs cs
theorem Rd.imp {P:Program} {t:TypeId} {A B:List V->Prop} (h:Rd P t A) (hi:∀vs,A vs->B vs):Rd P t B:=fun W H enc fuel cs x hx=>let ⟨vs,ha,hr⟩:=h W H enc fuel cs x hx;⟨vs,hi _ ha,hr⟩
theorem rd_int {P:Program} {t:TypeId} {k:IntKind} (hu:P.underlying t=some (.int k)):Rd P t fun vs=>∃n:Int,k.min<=n/\n<=k.max/\vs=[.x (.int k n)]:=by
 intro W H enc fuel cs x h;obtain ⟨n,rfl,_,hw⟩:=DataW.trod_int hu h;simp only[Lit.wf,Bool.and_eq_true,decide_eq_true_eq]at hw;exact ⟨_,⟨n,hw.1,hw.2,rfl⟩,RepV.x _ rfl,trivial⟩
theorem rd_bool {P:Program} {t:TypeId} (hu:P.underlying t=some .bool):Rd P t fun vs=>∃b:Bool,vs=[.x (.bool b)]:=by
 intro W H enc fuel cs x h;obtain ⟨b,rfl,_⟩:=DataW.trod_bool hu h;exact ⟨_,⟨b,rfl⟩,RepV.x _ rfl,trivial⟩
theorem rd_string {P:Program} {t:TypeId} (hu:P.underlying t=some .string):Rd P t fun vs=>∃s:ByteArray,s.size<=maxLen/\vs=[.x (.string s)]:=by
 intro W H enc fuel cs x h;obtain ⟨s,rfl,_,hs⟩:=DataW.trod_string hu h;exact ⟨_,⟨s,hs,rfl⟩,RepV.x _ rfl,trivial⟩
theorem list_of {α:Type} {n:Nat} {p:Nat->α->Prop} (h:∀i,i<n->∃a,p i a):∃l:List α,l.length=n/\∀i a,l[i]?=some a->p i a:=by
 induction n with
 | zero=>exact ⟨[],rfl,fun i a h=>by simp at h⟩
 | succ n ih =>
  obtain ⟨l,hl,hp⟩:=ih fun i hi=>h i (by omega);obtain ⟨a,ha⟩:=h n (by omega);refine ⟨l++[a],by simp[hl],fun i x hx=>?_⟩;by_cases hi:i<l.length
  .rw[List.getElem?_append_left hi]at hx;exact hp i x hx
  .rw[List.getElem?_append_right (by omega)]at hx
   have:i - l.length=0:=by
    have:=(List.getElem?_eq_some_iff.1 hx).1;simp at this;omega
   rw[this]at hx;simp at hx;subst hx;rw[show i=n by omega];exact ha
theorem rd_slice {P:Program} {t e:TypeId} {Pe:List V->Prop} (hu:P.underlying t=some (.slice e)) (he:Rd P e Pe):Rd P t fun vs=>∃rows:List (List V),(∀r,r∈rows->Pe r)/\rows.length<=maxLen/\vs=[.s (P.cellsOf e) rows]:=by
 intro W H enc fuel cs x h;rcases DataW.trod_slice hu h with ⟨rfl,_⟩|⟨a,len,cap,elems,rest,n,rfl,rfl,rfl,_,hlc,hcm,hel,hi,_⟩
 .exact ⟨_,⟨[],by simp,by simp[maxLen],rfl⟩,empty_s,trivial⟩
 .obtain ⟨rows,hl,hr⟩:=list_of (n:=len) (p:=fun i (r:List V)=>Pe r/\∃cs:List Value,W.cells? 0 (a.add (i*P.cellsOf e)) (P.cellsOf e)=some cs/\All2 (RepV W fun _=>False) r cs) fun i hlt=>by
   have h1:=hi i hlt;have h2:elems[i]?=some (elems[i]'(by omega)):=List.getElem?_eq_getElem (by omega);rw[h2]at h1
   cases hc:W.cells? 0 (a.add (i*P.cellsOf e)) (P.cellsOf e) with
   | none=>rw[hc]at h1;simp at h1
   | some cs =>
    rw[hc]at h1;obtain ⟨vs,hp,ha⟩:=he W H enc n cs _ h1;exact ⟨vs,hp,cs,rfl,ha⟩
  refine ⟨_,⟨rows,fun r hm=>?_,by omega,rfl⟩,?_,trivial⟩
  .obtain ⟨i,hi⟩:=List.getElem?_of_mem hm;exact (hr i r hi).1
  .refine mk_s hl.symm (fun i r hi=>?_) (fun ha=>by cases ha) hlc (fun ad had i r j v hi hj=>?_)
   .obtain ⟨_,cs,hc,ha⟩:=hr i r hi;obtain ⟨_,hlen,_⟩:=World.cells?_some hc;rw[ha.length,hlen]
   .cases had;obtain ⟨_,cs,hc,ha⟩:=hr i r hi;obtain ⟨_,hlen,hcell⟩:=World.cells?_some hc;obtain ⟨u,hu,hv⟩:=ha.get hj;have hjl:=(List.getElem?_eq_some_iff.1 hu).1;refine ⟨u,?_,hv,fun h=>h⟩;rw[<-Addr.add_add,hcell j (by omega)];exact hu
inductive RdF (P:Program):Nat->List Field->(List V->Prop)->Prop
 | nil (off:Nat):RdF P off [] fun vs=>vs=[]
 | cons {off:Nat} {f:Field} {fs:List Field} {A B:List V->Prop} (ho:f.offset=off) (h:Rd P f.type A) (hs:RdF P (off+P.cellsOf f.type) fs B):RdF P off (f::fs) fun vs=>∃a b,A a/\B b/\vs=a++b
def sumF (P:Program) (fs:List Field):Nat:=(fs.map fun f=>P.cellsOf f.type).sum
theorem rdF_spec {P:Program} {off:Nat} {fs:List Field} {Pred:List V->Prop} (h:RdF P off fs Pred) {W:World} {H:Type} {enc:TypeId×Value->H} {n:Nat} {cs:List Value} (hl:cs.length=off+sumF P fs)
 (hx:∀(i:Nat) (f:Field),fs[i]?=some f->∃x,DataW.trod enc P W 0 (fun _=>true) true n f.type ((cs.drop f.offset).take (P.cellsOf f.type))=some x):∃vs,Pred vs/\All2 (RepV W fun _=>False) vs (cs.drop off):=by
 induction h with
 | nil off =>
  refine ⟨[],rfl,?_⟩
  rw[List.drop_of_length_le (by simp[sumF]at hl;omega)];trivial
 | @cons off f fs A B ho h hs ih =>
  subst ho;obtain ⟨x,hx0⟩:=hx 0 f rfl;obtain ⟨a,ha,hra⟩:=h W H enc n _ _ hx0;obtain ⟨b,hb,hrb⟩:=ih (by simp[sumF]at hl ⊢;omega) fun i g hg=>hx (i+1) g hg;refine ⟨a++b,⟨a,b,ha,hb,rfl⟩,?_⟩
  have:cs.drop f.offset=(cs.drop f.offset).take (P.cellsOf f.type)++cs.drop (f.offset+P.cellsOf f.type):=by
   rw[<-List.drop_drop,List.take_append_drop]
  rw[this];exact hra.append hrb
theorem rd_struct {P:Program} {t:TypeId} {fs:Array Field} {Pred:List V->Prop} (hu:P.underlying t=some (.struct fs)) (hsum:P.cellsOf t=sumF P fs.toList) (h:RdF P 0 fs.toList Pred):Rd P t Pred:=by
 intro W H enc fuel cs x hx;obtain ⟨xs,n,rfl,_,hl,hxl,hi⟩:=DataW.trod_struct hu hx
 have:=rdF_spec h (cs:=cs) (W:=W) (enc:=enc) (n:=n) (by omega) fun i f hf=>by
  have hlt:=(List.getElem?_eq_some_iff.1 hf).1;have h1:=hi i f (by simpa using hf);rw[List.getElem?_eq_getElem (by simp at hlt;omega)]at h1;exact ⟨_,h1⟩
 simpa using this
theorem rows_map {α:Type} {Q:α->Prop} {f:α->List V}:∀ {rows:List (List V)},(∀r,r∈rows->∃a,Q a/\r=f a)->∃xs:List α,(∀x,x∈xs->Q x)/\rows=xs.map f/\xs.length=rows.length
 | [],_=>⟨[],by simp,rfl,rfl⟩
 | r::rows,h=>by
  obtain ⟨a,ha,rfl⟩:=h r (by simp);obtain ⟨xs,h1,rfl,h2⟩:=rows_map (f:=f) (Q:=Q) (rows:=rows) fun r hr=>h r (by simp[hr]);refine ⟨a::xs,fun x hx=>?_,rfl,by simp⟩;rcases List.mem_cons.1 hx with rfl|hx
  .exact ha
  .exact h1 x hx
def ArgRd (P:Program) (t:TypeId) (Pred:D->Prop):Prop :=
 ∀(W:World) (base:Nat) (v:Value) (H:Type) (enc:TypeId×Value->H) (d:DataW H) (p:List MemPlace),Value.okWide P W .any base t v->DataW.Trod enc P W 0 (fun _=>true) true t v d p->∃x,Pred x/\RepD W (fun _=>False) (fun _=>none) x v
theorem ArgRd.imp {P:Program} {t:TypeId} {A B:D->Prop} (h:ArgRd P t A) (hi:∀x,A x->B x):ArgRd P t B:=fun W base v H enc d p hok hx=>let ⟨x,ha,hr⟩:=h W base v H enc d p hok hx;⟨x,hi _ ha,hr⟩
theorem arg_one {P:Program} {t:TypeId} {ds:TypeDesc} {Pred:List V->Prop} (hu:P.underlying t=some ds) (hd:isAggD ds=false) (h:Rd P t Pred) (h1:∀vs,Pred vs->vs.length=1):ArgRd P t fun x=>∃a,Pred [a]/\x=.e (.c (.v a)):=by
 intro W base v H enc d p hok ⟨fuel,hx⟩;obtain ⟨vs,hp,ha⟩:=h W H enc fuel _ _ hx
 have hc:v.cells.toList=[v]:=by
  unfold Value.okWide at hok
  have key:Cell.okWide P W .any base t v->v.cells.toList=[v]:=by
   intro hc;unfold Cell.okWide Cell.ok at hc;rw[hu]at hc;cases v<;>first|rfl|(cases ds<;>first|exact hc.elim|cases hd)
  rw[hu]at hok;cases ds<;>first|exact key hok|cases hd
 rw[hc]at ha
 match vs,h1 vs hp,ha with
 | [a],_,⟨hr,_⟩=>exact ⟨_,⟨a,hp,rfl⟩,hr⟩
theorem arg_agg {P:Program} {t:TypeId} {ds:TypeDesc} {Pred:List V->Prop} (hu:P.underlying t=some ds) (hd:isAggD ds=true) (h:Rd P t Pred):ArgRd P t fun x=>∃vs,Pred vs/\x=.e (.a (vs.map .v)):=by
 intro W base v H enc d p hok ⟨fuel,hx⟩;obtain ⟨vs,hp,ha⟩:=h W H enc fuel _ _ hx
 have hc:∃cs,v=.agg cs:=by
  unfold Value.okWide at hok;rw[hu]at hok;cases ds<;>first|(obtain ⟨cs,h,_⟩:=hok;exact ⟨cs,h⟩)|cases hd
 obtain ⟨cs,rfl⟩:=hc;have ha':All2 (RepV W fun _=>False) vs cs.toList:=by simpa[Value.cells] using ha
 exact ⟨_,⟨vs,hp,rfl⟩,cs.toList,by simp,All2.map_left ha'⟩
def structL (P:Program) (t:TypeId):Option (List (Nat×TypeId)) :=
 match P.underlying t with
 | some (.struct fs)=>some (fs.toList.map fun f=>(f.offset,f.type))
 | _=>none
inductive RdL (P:Program):Nat->List (Nat×TypeId)->(List V->Prop)->Prop
 | nil (off:Nat):RdL P off [] fun vs=>vs=[]
 | cons {off:Nat} {t:TypeId} {fs:List (Nat×TypeId)} {A B:List V->Prop} (h:Rd P t A) (hs:RdL P (off+P.cellsOf t) fs B):RdL P off ((off,t)::fs) fun vs=>∃a b,A a/\B b/\vs=a++b
theorem RdL.toF {P:Program} {off:Nat} {l:List (Nat×TypeId)} {Pred:List V->Prop} (h:RdL P off l Pred):∀ {fs:List Field},fs.map (fun f=>(f.offset,f.type))=l->RdF P off fs Pred:=by
 induction h with
 | nil off =>
  intro fs hf;have:fs=[]:=by simpa using hf
  subst this;exact .nil _
 | @cons off t l A B h hs ih =>
  intro fs hf
  cases fs with
  | nil=>simp at hf
  | cons f fs =>
   simp only[List.map_cons,List.cons.injEq,Prod.mk.injEq]at hf;obtain ⟨⟨rfl,rfl⟩,hf⟩:=hf;exact .cons rfl h (ih hf)
theorem structL_spec {P:Program} {t:TypeId} {l:List (Nat×TypeId)} (h:structL P t=some l):∃fs:Array Field,P.underlying t=some (.struct fs)/\fs.toList.map (fun f=>(f.offset,f.type))=l:=by
 unfold structL at h
 split at h
 .rename_i fs hu;cases h;exact ⟨fs,hu,rfl⟩
 .cases h
theorem rd_structL {P:Program} {t:TypeId} {l:List (Nat×TypeId)} {Pred:List V->Prop} (hu:structL P t=some l) (hsum:P.cellsOf t=(l.map fun f=>P.cellsOf f.2).sum) (h:RdL P 0 l Pred):Rd P t Pred:=by
 obtain ⟨fs,h1,rfl⟩:=structL_spec hu;exact rd_struct h1 (by rw[hsum,sumF,List.map_map];rfl) (h.toF rfl)
theorem arg_struct {P:Program} {t:TypeId} {l:List (Nat×TypeId)} {Pred:List V->Prop} (hu:structL P t=some l) (h:Rd P t Pred):ArgRd P t fun x=>∃vs,Pred vs/\x=.e (.a (vs.map .v)):=by
 obtain ⟨fs,h1,_⟩:=structL_spec hu;exact arg_agg h1 rfl h
inductive ArgsRd (P:Program):List TypeId->(List D->Prop)->Prop
 | nil:ArgsRd P [] fun ds=>ds=[]
 | cons {t:TypeId} {ts:List TypeId} {A:D->Prop} {B:List D->Prop} (h:ArgRd P t A) (hs:ArgsRd P ts B):ArgsRd P (t::ts) fun ds=>∃x xs,A x/\B xs/\ds=x::xs
theorem argsRd_spec {P:Program} {ts:List TypeId} {Pred:List D->Prop} (h:ArgsRd P ts Pred) {W:World} {base:Nat} {H:Type} {enc:TypeId×Value->H}:∀ {vs:List Value} {ds:List (DataW H)} {p:List MemPlace},
 (∀(j:Nat) t v,ts[j]?=some t->vs[j]?=some v->Value.okWide P W .any base t v)->DataW.TrodAll enc P W 0 (fun _=>true) true ts vs ds p->∃Ds,Pred Ds/\All2 (RepD W (fun _=>False) fun _=>none) Ds vs:=by
 induction h with
 | nil =>
  intro vs ds p _ h;obtain ⟨rfl,_,_⟩:=trodAll_nil h
  exact ⟨[],rfl,trivial⟩
 | @cons t ts A B h hs ih =>
  intro vs ds p hok hx;obtain ⟨v,vs1,d,ds1,a,b,rfl,rfl,rfl,h1,h2⟩:=trodAll_cons hx;obtain ⟨x,ha,hr⟩:=h W base v H enc d a (hok 0 t v rfl rfl) h1;obtain ⟨xs,hb,hrs⟩:=ih (fun j t v ht hv=>hok (j+1) t v ht hv) h2;exact ⟨x::xs,⟨x,xs,ha,hb,rfl⟩,hr,hrs⟩
theorem trodAll_stays {P:Program} (hl:laidOutB P=true) {W W':World} (hb:Below W.heap.size W W') {H:Type} {enc:TypeId×Value->H}:∀ {ts:List TypeId} {vs:List Value} {ds:List (DataW H)} {p:List MemPlace},(∀t,t∈ts->P.readableRec t=true/\t<P.types.size) ->
 DataW.TrodAll enc P W 0 (fun _=>true) true ts vs ds p->(∀x,x∈p->x.block<W.heap.size)->∀sp:Nat->Bool,(∀x,x∈p->sp x.block=true)->DataW.TrodAll enc P W' 0 sp true ts vs ds p
 | [],vs,ds,p,_,h,_,sp,_=>by
  obtain ⟨rfl,rfl,rfl⟩:=trodAll_nil h
  exact rfl
 | t::ts,vs,ds,p,ht,h,hlt,sp,hsp=>by
  obtain ⟨v,vs1,d,ds1,a,b,rfl,rfl,rfl,h1,h2⟩:=trodAll_cons h;have:=ht t (by simp)
  exact ⟨a,b,WideElems.Trod_stays hl this.1 this.2 h1 (fun x hx=>hb.same (hlt x (by simp[hx]))) (fun x hx=>hsp x (by simp[hx])),
   trodAll_stays hl hb (fun t ht'=>ht t (by simp[ht'])) h2 (fun x hx=>hlt x (by simp[hx])) sp (fun x hx=>hsp x (by simp[hx])),rfl⟩
theorem post_of_below {H:Type} {enc:TypeId×Value->H} {P:Program} {f:Func} {s:ChangeSpec} {apart fresh handsOn again:Bool} {W W':World} {args:Array Value} {v:Value} {ds gs:List (DataW H)} {before pa pv:List MemPlace}
 (hW:DataW.Whole enc P f.params.toList s.vars apart W args.toList ds gs before)
 (hres:∀(b:Nat) (sp:Nat->Bool) (hd:Bool),DataW.TrodAll enc P W' b sp hd f.resultTypes.toList (v.resultList f.resultTypes.size) (s.fn H (ds++gs)).results [])
 (hargs:∀sp:Nat->Bool,(∀p∈before,sp p.block=true)->DataW.TrodAll enc P W' 0 sp true f.params.toList args.toList (s.fn H (ds++gs)).args pa)
 (hvars:∀sp:Nat->Bool,(∀p∈before,sp p.block=true)->DataW.TrodVars enc P W' sp s.vars (s.fn H (ds++gs)).vars pv)
 (hps:before=pa++pv) (hb:Below W.heap.size W W')
 (hok:∀(j:Nat) (t:TypeId) (r:Value),f.resultTypes[j]?=some t->(v.resultList f.resultTypes.size)[j]?=some r->Value.okWide P W' .any 0 t r) :
 s.post enc P f apart fresh handsOn again W args v W':=by
 have hlt:∀p∈before,p.block<W.heap.size:=fun p hp=>hW.lt p hp;have hold:∀p∈before,(fun b=>decide (b<W.heap.size)) p.block=true:=fun p hp=>by simpa using hlt p hp
 refine ⟨ds,gs,before,[],pa,pv,hW,hres _ _ _,hargs _ hold,hvars _ hold,World.keptBut_mono (fun p hp=>⟨hp,?_⟩) (hb.frame (·∈before)),fun _=>?_⟩
 .rw[hps,List.mem_append]at hp;exact Or.inr hp
 .obtain ⟨_,_,_,_,_,hz,hn⟩:=hW;refine ⟨hok,_,_,([]++pa)++pv,⟨[]++pa,pv,trodAll_append (hargs _ (fun _ _=>rfl)) (hres _ _ _),hvars _ (fun _ _=>rfl),rfl,?_,?_⟩,?_⟩
  .intro b off hp;have hin:MemPlace.cell b off∈before:=by rw[hps];simpa using hp
   rw[hb.frozen (hlt _ hin)];exact hz b off hin
  .intro ha;have:=hn ha;rw[hps]at this;simpa using this
  .intro p hp _;rw[hps];simpa using hp
theorem law_contract {P:Program} {f:FuncId} {fn:Func} {s:ChangeSpec} {apart fresh handsOn again:Bool} {tb:TypeId} {Pred:List D->Prop} (hl:laidOutB P=true) (hv:s.vars=[]) (hres:fn.resultTypes=#[tb]) (htb:P.underlying tb=some .bool)
 (hpar:∀t,t∈fn.params.toList->P.readableRec t=true/\t<P.types.size) (hspec:∀(H:Type) (ds:List (DataW H)),ds.length=fn.params.size->(s.fn H ds).results=[.lit (.bool true)]/\(s.fn H ds).args=ds/\(s.fn H ds).vars=[])
 (hrd:ArgsRd P fn.params.toList Pred) (law:∀Ds,Pred Ds->ACall P f [] Ds (B true) []) {H:Type} {enc:TypeId×Value->H} (W:World) (base:Nat) (args:Array Value) (ds gs:List (DataW H)) (before:List MemPlace)
 (hok:∀(j:Nat) t v,fn.params[j]?=some t->args[j]?=some v->Value.okWide P W .any base t v) (hW:DataW.Whole enc P fn.params.toList s.vars apart W args.toList ds gs before) (hG:Glob (Hd fun _=>none) W:=by intro x hx;cases hx) :
 Calls P f args W fun e W'=>∃v,e=.returned v/\s.post enc P fn apart fresh handsOn again W args v W':=by
 have hlt:∀p∈before,p.block<W.heap.size:=fun p hp=>hW.lt p hp;obtain ⟨p,q,hA,hV,hpq,hfz,hnd⟩:=id hW;have hq:gs=[]/\q=[]:=by rw[hv]at hV;exact trodVars_none hV
 obtain ⟨rfl,rfl⟩:=hq;obtain ⟨Ds,hp,ha⟩:=argsRd_spec hrd (base:=base) (fun j t v ht hv=>hok j t v (by simpa using ht) (by simpa using hv)) hA
 have hmem:Mem (fun _=>False) (Hd fun _=>none) W (fun _=>none) (fun i=>([]:List Blk)[i]?) W :=
  { blks:=fun i b h=>by simp at h
    defd:=fun _ _=>rfl
    inj:=fun _ _ _ _ _ _ _ _ h _=>by simp[solid]at h
    fresh:=fun _ _ _ _ h=>by cases h
    keep:=KeepM.refl _ _
    own0:=fun _ h=>h.elim
    glob:=fun x hx=>⟨(hG x hx).1,fun e=>e.elim (hG x hx).2.1 id,(hG x hx).2.2⟩ }
 have how:∀b,¬Ow (fun _=>False) (fun _=>none) (fun i=>([]:List Blk)[i]?) b:=by
  rintro b (h|⟨i,_,_,h,_⟩)
  .exact h
  .cases h
 have hcall:=(law Ds hp).2 (fun _=>False) W (fun _=>none) args.toList hmem (ha.mono fun _ _ h=>h.mono (Keep.refl _ _) (fun b _ h=>(how b h).elim) (.refl _));rw[Array.toArray_toList]at hcall;refine hcall.mono ?_;rintro e W' ⟨u,ρ',rfl,_,hd,hm⟩;obtain ⟨rfl,_⟩:=rep_x (v:=.bool true) hd;have hb:Below W.heap.size W W':=⟨hm.keep.os,hm.keep.tape,hm.keep.output,hm.keep.size,fun k hk=>hm.keep.block k hk fun ⟨_,_,_,h⟩=>by cases h⟩
 have hlen:ds.length=fn.params.size:=by
  have:∀ {ts:List TypeId} {vs:List Value} {ds:List (DataW H)} {p:List MemPlace},DataW.TrodAll enc P W 0 (fun _=>true) true ts vs ds p->ds.length=ts.length:=by
   intro ts
   induction ts with
   | nil=>intro vs ds p h;obtain ⟨_,rfl,_⟩:=trodAll_nil h;rfl
   | cons t ts ih =>
    intro vs ds p h;obtain ⟨v,vs1,d,ds1,a,b,rfl,rfl,rfl,h1,h2⟩:=trodAll_cons h;simp[ih h2]
  rw[this hA];simp
 obtain ⟨s1,s2,s3⟩:=hspec H (ds++[]) (by simpa using hlen);refine ⟨_,rfl,post_of_below (pa:=p) (pv:=[]) hW (fun b sp hd=>?_) (fun sp hsp=>?_) (fun sp _=>?_) (by rw[hpq]) hb ?_⟩
 .rw[s1,hres];exact trodAll_mk1 ⟨1,by simp[DataW.trod,htb,Value.cells]⟩
 .rw[s2,List.append_nil];exact trodAll_stays hl hb hpar hA (fun x hx=>hlt x (by rw[hpq];simpa using hx)) sp fun x hx=>hsp x (by rw[hpq];simpa using hx)
 .rw[s3,hv];exact rfl
 .exact ok_one hres rfl (by simp[Value.okWide,htb,Cell.okWide,Cell.ok])
end
end Eng
end Go.Proofs.YtgenjpingdkmgaaGreatDoor
