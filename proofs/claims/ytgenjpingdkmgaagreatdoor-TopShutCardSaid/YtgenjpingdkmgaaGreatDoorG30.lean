/- Contracts of functions that this seat's law calls. No condition. -/
import Derived.Test.YtgenjpingdkmgaaGreatDoorRows
import Derived.Lib.LaidTab
import Derived.Stop.LaidErr
import Derived.Test.YtgenjpingdkmgaaGreatDoorG11
set_option maxRecDepth 100000
set_option linter.unusedSimpArgs false
set_option linter.unusedVariables false
open Go.Proofs.Tryz
namespace Go.Proofs.YtgenjpingdkmgaaGreatDoor
namespace Eng
section
open Go.RowKit
theorem heap_of_var {W:World} {n:String} {g:Nat} {cs:Array Value} (hg:prog.globalNamed n=some g) (h:W.var? prog n=some cs):∃t z,W.heap[g]?=some (.cells cs t z):=by
 unfold World.var? at h;rw[hg,Option.bind_some]at h
 split at h
 .rename_i c t z he;cases h;exact ⟨t,z,he⟩
 .cases h
theorem row434 (u:TypeId) (h:prog.typeName? 3 u=some "*errors.errorString"):u=434 :=
 typeName_ptr_named (nm := "errors.errorString") (by rw[show "*" ++ "errors.errorString" = "*errors.errorString" by decide];kernel_rfl) (by kernel_rfl) (by decide) u (by rw[show "*" ++ "errors.errorString" = "*errors.errorString" by decide];exact h)
def strData (ss:List (List UInt8)):DataW Unit:=.agg (ss.map fun s=>.lit (.string s))
theorem cells_of_strs {enc:TypeId×Value->Unit} {P:Program} {w:World} {base:Nat} {sp:Nat->Bool} {held:Bool} {fuel:Nat} {t e:TypeId} {n:Nat} {cs:List Value} {ss:List (List UInt8)} {p:List MemPlace}
 (ht:P.underlying t=some (.array n e)) (he:P.underlying e=some .string) (hce:P.cellsOf e=1) (hct:P.cellsOf t=n)
 (h:DataW.trod enc P w base sp held fuel t cs=some (strData ss,p)):cs=ss.map fun s=>Value.string ⟨s.toArray⟩:=by
 cases fuel with
 | zero=>simp[DataW.trod]at h
 | succ fuel =>
  simp only[DataW.trod,ht,hce,hct,Nat.mul_one]at h
  split at h
  .rename_i hl;obtain ⟨xs,hm,hx⟩:=Option.map_eq_some_iff.1 h
   have hxs:xs.map (·.1)=ss.map fun s=>(DataW.lit (.string s):DataW Unit):=by
    have:=congrArg Prod.fst hx;simpa[strData] using this
   have hxl:xs.length=n:=by simpa using Lib.mapM_length hm
   have hzl:ss.length=n:=by
    have:=congrArg List.length hxs;simp at this;omega
   apply List.ext_getElem?;intro i;by_cases hi:i<n
   .obtain ⟨b,hb,hf⟩:=Lib.mapM_at hm i i (by simp[hi]);obtain ⟨s,hc,rfl,_⟩:=DataW.trod_string he hf
    have h1:cs[i]?=some (.string s):=by
     have:=congrArg (·[0]?) hc;simpa[List.getElem?_take,List.getElem?_drop] using this
    have h2:(xs.map (·.1))[i]?=some (DataW.lit (.string s.data.toList):DataW Unit):=by simp[hb]
    rw[hxs]at h2;simp only[List.getElem?_map,Option.map_eq_some_iff,DataW.lit.injEq,Lit.string.injEq]at h2;obtain ⟨z',hz',rfl⟩:=h2;simp[h1,hz']
   .rw[List.getElem?_eq_none (by omega),List.getElem?_eq_none (by simp;omega)]
  .cases h
theorem strs_of_head {W:World} {name:String} {ss:List (List UInt8)} {rest:List (String×DataW Unit)} {g:Nat} {t e:TypeId} {n:Nat}
 (hg:prog.globalNamed name=some g) (hty:(prog.globals[g]?).map (·.type)=some t) (ht:prog.underlying t=some (.array n e)) (he:prog.underlying e=some .string) (hce:prog.cellsOf e=1) (hct:prog.cellsOf t=n)
 (h:laidMet prog ((name,strData ss)::rest) W):∃t z,W.heap[g]?=some (.cells (ss.map fun s=>Value.string ⟨s.toArray⟩).toArray t z):=by
 obtain ⟨ps,⟨g',t',cs,fuel,p,q,hg',ht',hvar,hd,_,_⟩,_⟩:=h;obtain rfl:=Option.some.inj (hg.symm.trans hg');obtain rfl:=Option.some.inj (hty.symm.trans ht');have e:=cells_of_strs ht he hce hct hd;have hv:W.var? prog name=some (ss.map fun s=>Value.string ⟨s.toArray⟩).toArray:=by rw[hvar,<-e]
 exact heap_of_var hg hv
def asksS:List (List UInt8):=[[],[111,114,100,101,114],[99,104,97,110,103,101],[116,111,108,100],[116,105,99,107],[107,105,108,108],[103,97,112],[114,101,115,101,116],[108,105,109,105,116]]
def execsS:List (List UInt8):=[[],[110,101,119],[102,105,108,108],[99,97,110,99,101,108],[114,101,112,108,97,99,101],[114,101,106,101,99,116],[101,120,112,105,114,101],[98,117,115,116],[99,111,114,114,101,99,116]]
abbrev laidT:List (String×DataW Unit):=[("math/bits.deBruijn32tab",Rows.laid_math_bits_deBruijn32tab),("math/bits.deBruijn64tab",Rows.laid_math_bits_deBruijn64tab),("internal/strconv.uint64pow10",Rows.laid_internal_strconv_uint64pow10),("unicode/utf8.acceptRanges",Rows.laid_unicode_utf8_acceptRanges),("strconv.ErrRange",Rows.laid_strconv_ErrRange),("strconv.ErrSyntax",Rows.laid_strconv_ErrSyntax),("checkroll/text.asks",Rows.laid_checkroll_text_asks),("checkroll/text.execs",Rows.laid_checkroll_text_execs),("unicode/utf8.first",Rows.laid_unicode_utf8_first)]
theorem glob_of {W:World} (hL:laidMet prog laidT W):Glob (Hd fun _=>none) W:=by
 have h2:=hL.tail.tail;have h4:=h2.tail.tail;have h6:=h4.tail.tail;have h7:=h6.tail;have e2:(Rows.laid_internal_strconv_uint64pow10:DataW Unit)=Lib.tabData .u64 ((List.range 20).map fun i=>((10 ^ i:Nat):Int)):=by kernel_rfl
 rw[e2]at h2;have ht:=Lib.tabIs_of_head (g:=3) (t:=396) (e:=209) (n:=20) (by kernel_rfl) (by kernel_rfl) underlying396 underlying209 (by kernel_rfl) (by kernel_rfl) h2;obtain ⟨t3,z3,k3⟩:=heap_of_var (g:=3) (by kernel_rfl) ht;obtain ⟨a,s,hv,_,_,_⟩:=laid_sentinel h4 (g:=7) (ti:=365) (tp:=434) (te:=436) (ts:=9) (by kernel_rfl) (by kernel_rfl) underlying365 row434 underlying434 underlying436 rfl rfl underlying9 (by kernel_rfl) (by kernel_rfl);obtain ⟨t7,z7,k7⟩:=heap_of_var (g:=7) (by kernel_rfl) hv;have e6:(Rows.laid_checkroll_text_asks:DataW Unit)=strData asksS:=by kernel_rfl
 have e7:(Rows.laid_checkroll_text_execs:DataW Unit)=strData execsS:=by kernel_rfl
 rw[e6]at h6;rw[e7]at h7;obtain ⟨t1,z1,k1⟩:=strs_of_head (g:=1) (t:=375) (e:=9) (n:=9) (by kernel_rfl) (by kernel_rfl) underlying375 underlying9 (by kernel_rfl) (by kernel_rfl) h6;obtain ⟨t2,z2,k2⟩:=strs_of_head (g:=2) (t:=375) (e:=9) (n:=9) (by kernel_rfl) (by kernel_rfl) underlying375 underlying9 (by kernel_rfl) (by kernel_rfl) h7;intro x hx;have nh:∀b,¬Hd (fun _=>none) b:=fun b ⟨_,_,_,h⟩=>by cases h
 rcases List.mem_cons.1 hx with rfl|hx
 .exact ⟨(Array.getElem?_eq_some_iff.1 k7).1,nh _,434,_,t7,z7,k7⟩
 .rcases List.mem_cons.1 hx with rfl|hx
  .exact ⟨(Array.getElem?_eq_some_iff.1 k3).1,nh _,t3,z3,k3⟩
  .rcases List.mem_cons.1 hx with rfl|hx
   .exact ⟨(Array.getElem?_eq_some_iff.1 k1).1,nh _,t1,z1,k1⟩
   .rw[List.mem_singleton.1 hx];exact ⟨(Array.getElem?_eq_some_iff.1 k2).1,nh _,t2,z2,k2⟩
end
end Eng
end Go.Proofs.YtgenjpingdkmgaaGreatDoor
