/- The listed package variables: a world that holds them; what such a world says of those that are read. No condition. -/
import Derived.Test.YtmdijohmddokhaaGreatDoorRows
import Derived.Test.YtmdijohmddokhaaGreatDoorSqSP
import Derived.LaidLaws
import Derived.LaidHandle
namespace Go.Proofs.YtmdijohmddokhaaGreatDoor.Ld
open Go Go.ChangeShapes Go.WideShapes Go.ChangeAt Go.RowKit Go.Sq
set_option linter.unusedVariables false
def setC(cs:Array Value):Obj->Obj
  | .cells _ t fz=>.cells cs t fz
  | o=>o
def flatW:Nat->DataW Unit->List Value
  | 0,_=>[]
  | _+1,.lit (.int k v)=>[.int k v]
  | n+1,.agg l=>l.flatMap (flatW n)
  | _,_=>[]
noncomputable def laidWorld(os:Os):World:=
  { World.holding Tryz.prog os ⟨#[],#[],[]⟩ with heap:=((((((((((World.holding Tryz.prog os ⟨#[],#[],[]⟩).heap).modify 6 (setC (flatW 6 Rows.laid_math_bits_deBruijn32tab).toArray)).modify 7 (setC (flatW 6 Rows.laid_math_bits_deBruijn64tab).toArray)).modify 1 (setC (flatW 6 Rows.laid_internal_strconv_uint64pow10).toArray)).modify 3 (setC (flatW 6 Rows.laid_unicode_utf8_acceptRanges).toArray)).modify 5 (setC #[.iface 332 (.pointer (some ⟨(World.holding Tryz.prog os ⟨#[],#[],[]⟩).heap.size+0,0,none⟩))])).modify 4 (setC #[.iface 332 (.pointer (some ⟨(World.holding Tryz.prog os ⟨#[],#[],[]⟩).heap.size+1,0,none⟩))])).modify 2 (setC (flatW 6 Rows.laid_unicode_utf8_first).toArray)).push (.cells #[.string ⟨⟨[118,97,108,117,101,32,111,117,116,32,111,102,32,114,97,110,103,101]⟩⟩] 334 (0,0))).push (.cells #[.string ⟨⟨[105,110,118,97,108,105,100,32,115,121,110,116,97,120]⟩⟩] 334 (0,0)) }
theorem laidWorld_met(os:Os)(args:Array Value):laidMetH Tryz.prog Rows.consoleRawRow.laid ((laidWorld os).forCall (fun _ _=>0) ⟨#[],args,[]⟩).memory:=
  (laidMet_of_run' 12 (by kernel_rfl) (by kernel_rfl):laidMet Tryz.prog Rows.consoleRawRow.laid ((laidWorld os).forCall (fun _ _=>0) ⟨#[],args,[]⟩).memory)
theorem laid_heap{w w':World}(hh:w.heap=w'.heap)(h:laidMetH Tryz.prog Rows.consoleRawRow.laid w):laidMetH Tryz.prog Rows.consoleRawRow.laid w':=
  laidMet.of_heap hh (h:laidMet Tryz.prog Rows.consoleRawRow.laid w)
theorem qEA{P:Program}{W:World}{n:String}{g:Nat}{arr:Array Value}(hn:P.globalNamed n=some g)(hv:W.var? P n=some arr):∃t fz,W.heap[g]? = some (.cells arr t fz):=by
  unfold World.var? at hv;rw[hn] at hv;have hv':(match W.heap[g]? with | some (.cells cs _ _)=>some cs | _=>none)=some arr:=hv
  split at hv'
  · rename_i cs t fz he
    injection hv' with hv'; subst hv'
    exact⟨t,fz,he⟩
  · cases hv'
theorem qAV{P:Program}{W:World}{n:String}{g:Nat}{es:List Value}{T:Ty}{z:T.den}(hn:P.globalNamed n=some g)(hv:W.var? P n=some es.toArray)(hr:RdC (fun g=>g<W.heap.size) W T z es):
    g<W.heap.size/\∃es,RdC (fun g=>g<W.heap.size) W T z es/\(∀(j:Nat) (u:Value),es[j]? = some u->W.cell? ⟨g,j,none⟩=some u)/\∃t fz,W.heap[g]? = some (.cells es.toArray t fz):=by
  obtain⟨t,fz,he⟩:=qEA hn hv;have hc:=World.var?_cell hn hv
  refine⟨?_,es,hr,fun j u hj=>(hc j).trans (by simpa using hj),t,fz,he⟩
  rcases Nat.lt_or_ge g W.heap.size with h1 | h1
  · exact h1
  · rw[Array.getElem?_eq_none h1] at he; cases he
abbrev IsL(W:World)(n:String)(d:DataW Unit):Prop:=∃(g:Nat) (t:TypeId) (cs:Array Value) (fuel:Nat) (p:List MemPlace),Tryz.prog.globalNamed n=some g/\(Tryz.prog.globals[g]?).map (·.type)=some t/\W.var? Tryz.prog n=some cs/\DataW.trod (fun _=>()) Tryz.prog W 0 (fun _=>true) false fuel t cs.toList=some (d,p)
theorem qDX{W:World}{n:String}{g0:Nat}{nm:String}{d:DataW Unit}(hn:Tryz.prog.globalNamed n=some g0)(hty:(Tryz.prog.globals[g0]?).map (·.type)=some 133)(h:IsL W n (.iface nm d)):
    g0<W.heap.size/\∃es,RdC (fun g=>g<W.heap.size) W .err true es/\(∀(j:Nat) (u:Value),es[j]? = some u->W.cell? ⟨g0,j,none⟩=some u)/\∃t fz,W.heap[g0]? = some (.cells es.toArray t fz):=by
  obtain⟨g,t,cs,fuel,p,hg,ht,hvar,hd⟩:=h;obtain rfl:=Option.some.inj (hn.symm.trans hg);obtain rfl:=Option.some.inj (hty.symm.trans ht);obtain⟨_,u,v,hcs,_,_⟩:=iface_of_trod Tryz.underlying133 hd;exact qAV (es:=[.iface u v]) hn (by rw[hvar,<-hcs]) ⟨_,rfl,rfl,⟨_,_,rfl⟩⟩
theorem qgG:Tryz.prog.globalNamed "internal/strconv.uint64pow10" = some 1:=by kernel_rfl
theorem qlE:(Tryz.prog.globals[1]?).map (·.type)=some 301:=by kernel_rfl
theorem qFx{W:World}(h:IsL W "internal/strconv.uint64pow10" Rows.laid_internal_strconv_uint64pow10):W.var? Tryz.prog "internal/strconv.uint64pow10" = some (Lib.pow10Tab.map fun z=>Value.int .u64 z).toArray:=by
  obtain⟨g,t,cs,fuel,p,hg,ht,hvar,hd⟩:=h;obtain rfl:=Option.some.inj (qgG.symm.trans hg);obtain rfl:=Option.some.inj (qlE.symm.trans ht);have hd':DataW.trod (fun _=>()) Tryz.prog W 0 (fun _=>true) false fuel 301 cs.toList=some (Lib.tabData .u64 Lib.pow10Tab,p):=hd
  rw[hvar,<-Lib.cells_of_tab Tryz.underlying301 Tryz.underlying279 (by kernel_rfl) (by kernel_rfl) hd']
theorem qnx:Tryz.prog.globalNamed "strconv.ErrSyntax" = some 4:=by kernel_rfl
theorem qny:(Tryz.prog.globals[4]?).map (·.type)=some 133:=by kernel_rfl
theorem qor:Tryz.prog.globalNamed "strconv.ErrRange" = some 5:=by kernel_rfl
theorem qos:(Tryz.prog.globals[5]?).map (·.type)=some 133:=by kernel_rfl
theorem glob_ok{W:World}(h:laidMetH Tryz.prog Rows.consoleRawRow.laid W):qho (fun g=>g<W.heap.size) W:=by
  have h':laidMet Tryz.prog Rows.consoleRawRow.laid W:=h;obtain⟨ps,l0,_⟩:=h';obtain⟨_,_,_,_,_,_,_,_,_,_,l1,_⟩:=l0;obtain⟨_,_,_,_,_,_,_,_,_,_,l2,_⟩:=l1;obtain⟨g2,t2,cs2,fuel2,p2,_,ha2,hb2,hc2,hd2,l3,_⟩:=l2;obtain⟨_,_,_,_,_,_,_,_,_,_,l4,_⟩:=l3;obtain⟨g4,t4,cs4,fuel4,p4,_,ha4,hb4,hc4,hd4,l5,_⟩:=l4;obtain⟨g5,t5,cs5,fuel5,p5,_,ha5,hb5,hc5,hd5,l6,_⟩:=l5;intro p hp;unfold globs at hp;simp only[List.mem_cons,List.not_mem_nil,or_false] at hp;rcases hp with rfl | rfl | rfl
  · exact(fun h=>qAV (es:=Lib.pow10Tab.map fun z=>Value.int .u64 z) qgG (qFx h) (by rw[show(Lib.pow10Tab.map fun z=>Value.int .u64 z)=flatI _ _ from(by kernel_rfl:_=flatI (.pair (.int .u64) (.pair (.int .u64) (.pair (.int .u64) (.pair (.int .u64) (.pair (.int .u64) (.pair (.int .u64) (.pair (.int .u64) (.pair (.int .u64) (.pair (.int .u64) (.pair (.int .u64) (.pair (.int .u64) (.pair (.int .u64) (.pair (.int .u64) (.pair (.int .u64) (.pair (.int .u64) (.pair (.int .u64) (.pair (.int .u64) (.pair (.int .u64) (.pair (.int .u64) (.int .u64)))))))))))))))))))) ((1:Int),(10:Int),(100:Int),(1000:Int),(10000:Int),(100000:Int),(1000000:Int),(10000000:Int),(100000000:Int),(1000000000:Int),(10000000000:Int),(100000000000:Int),(1000000000000:Int),(10000000000000:Int),(100000000000000:Int),(1000000000000000:Int),(10000000000000000:Int),(100000000000000000:Int),(1000000000000000000:Int),(10000000000000000000:Int)))]; exact qse (by kernel_rfl))) ⟨_,_,_,_,_,ha2,hb2,hc2,hd2⟩
  · exact qDX qnx qny ⟨_,_,_,_,_,ha5,hb5,hc5,hd5⟩
  · exact qDX qor qos ⟨_,_,_,_,_,ha4,hb4,hc4,hd4⟩
end Go.Proofs.YtmdijohmddokhaaGreatDoor.Ld
