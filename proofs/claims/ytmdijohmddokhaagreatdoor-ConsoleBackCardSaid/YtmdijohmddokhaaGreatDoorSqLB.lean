/- The second engine, part LB: functions of Go's library: contracts from what is known of their calls. No condition. -/
import Derived.Test.YtmdijohmddokhaaGreatDoorSqZ
import Derived.Lib.AtoiAll
import Derived.Lib.ConvBytes
import Derived.Lib.Join
import Derived.Lib.ItoaMem
import Derived.Lib.LaidTab
namespace Go.Sq
open Go Go.RowKit
/-! ### Searches for a byte -/
def idxB(s:List UInt8)(c:Int):Option Int:=some (Lib.indexByte s c.toNat.toUInt8)
def cntB(s:List UInt8)(c:Int):Option Int:=some ((Lib.countByte s c.toNat.toUInt8:Nat):Int)
def qC3(f:FuncId):Ext:={ f:=f,ps:=[.str,.int .u8],r:=.int .i64,g:=fun x=>idxB x.1 x.2.1 }
def qC4(f:FuncId):Ext:={ f:=f,ps:=[.str,.int .u8],r:=.int .i64,g:=fun x=>cntB x.1 x.2.1 }
theorem qAg{P:Program}{f:FuncId}{fn:Func}(hf:P.funcs[f]? = some fn)(hname:(fn.name == "runtime.NumGoroutine")=false)(hb:fn.body.isNone=true)(hn:Extern.findNext fn=none)(he:Extern.find fn=some Extern.BytealgIndexByte.indexByte):ExtOk P (qC3 f):=by
 intro x y hxy F w vs hvs;obtain⟨s,c,x2⟩:=x;obtain⟨v1,r1,rfl,⟨cs1,h1,rfl⟩,v2,r2,rfl,⟨cs2,h2,rfl⟩,hr⟩:=hvs;have hr':r2=[]:=hr;subst hr';have h1':cs1=[.string ⟨⟨s⟩⟩]:=h1;have h2':cs2=[.int .u8 c]:=h2;subst h1' h2';have hxy':some (Lib.indexByte s (Int.toNat c).toUInt8)=some y:=hxy;injection hxy' with hxy'; subst hxy'
 refine⟨.int .i64 (Lib.indexByte s (Int.toNat c).toUInt8),?_,⟨[.int .i64 (Lib.indexByte s (Int.toNat c).toUInt8)],rfl,rfl⟩⟩
 show(callFunc f #[.string ⟨⟨s⟩⟩,.int .u8 c]).run P w=_;rw[zL2 hf hname hb hn he];have hrun:=Lib.run_indexByteString (P:=P) ⟨⟨s⟩⟩ c w;exact(congrArg (fun r=>r.andThen fun v w'=>Result.ok (Next.value v) w') hrun).trans rfl
theorem qAh{P:Program}{f:FuncId}{fn:Func}(hf:P.funcs[f]? = some fn)(hname:(fn.name == "runtime.NumGoroutine")=false)(hb:fn.body.isNone=true)(hn:Extern.findNext fn=none)(he:Extern.find fn=some Extern.BytealgCount.count):ExtOk P (qC4 f):=by
 intro x y hxy F w vs hvs;obtain⟨s,c,x2⟩:=x;obtain⟨v1,r1,rfl,⟨cs1,h1,rfl⟩,v2,r2,rfl,⟨cs2,h2,rfl⟩,hr⟩:=hvs;have hr':r2=[]:=hr;subst hr';have h1':cs1=[.string ⟨⟨s⟩⟩]:=h1;have h2':cs2=[.int .u8 c]:=h2;subst h1' h2';have hxy':some ((Lib.countByte s (Int.toNat c).toUInt8:Nat):Int)=some y:=hxy;injection hxy' with hxy'; subst hxy'
 refine⟨.int .i64 ((Lib.countByte s (Int.toNat c).toUInt8:Nat):Int),?_,⟨[.int .i64 ((Lib.countByte s (Int.toNat c).toUInt8:Nat):Int)],rfl,rfl⟩⟩
 show(callFunc f #[.string ⟨⟨s⟩⟩,.int .u8 c]).run P w=_;rw[zL2 hf hname hb hn he];have hrun:=Lib.run_countString (P:=P) ⟨⟨s⟩⟩ c w;exact(congrArg (fun r=>r.andThen fun v w'=>Result.ok (Next.value v) w') hrun).trans rfl
/-! ### A function of data, with flat results, of which the calls are known -/
theorem qC5{j:J}(h:j.vars=[])(x:CT j.ct)(b:Nat):(j.put0 x).v b=none:=by
 show lookV (qfd (fun _ _=>SV.any) j.vars _).1 b=none
 rw[h]; rfl
theorem qC6{j:J}(h:j.arrs=[])(x:CT j.ct)(b:Nat):(j.put0 x).a b=none:=by
 show lookA (qkb j.arrs _) b=none;rw[h]; rfl
theorem FunOk.lib{P:Program}{e:Fun}(hok:FnOk P e.f)(hv:e.ji.vars=[])(ha:e.ji.arrs=[])(hv2:e.jo.vars=[])(ha2:e.jo.arrs=[])
  (h:∀x y,e.tw x=some y->∀(F:Nat->Prop) (w:World) (ρ:Env) (vs:List Value),vs.length=e.np->(∀g,F g->g<w.heap.size)->qgM F w->(∀i u,vs[i]? = some u->Den P F w ρ ((e.ji.put0 x).r i) u)->
   Calls P e.f vs.toArray w fun en w'=>∃r,en=.returned r/\Fr w (fun _=>False) w'/\Den P F w' (fun _=>none) (resSV e.nr (e.jo.put0 y)) r):FunOk P e:=by
 refine⟨hok,fun x y hxy F w ρ vs hl hm hd=>?_⟩
 have hn:e.ji.names=[]:=by unfold J.names; rw[hv,ha]; rfl
 have hn2:e.jo.names=[]:=by unfold J.names; rw[hv2,ha2]; rfl
 refine(h x y hxy F w ρ vs hl hm.fb hm.glob hd).mono ?_
 rintro en w' ⟨r,rfl,hf,hr⟩
 have hw:∀g,F g->w'.heap[g]? = w.heap[g]?:=fun g hg=>hf.blk g (hm.fb g hg) id
 refine⟨r,F,fun _=>none,rfl,⟨hf.os,hf.tape,hf.output,hf.size,fun g hg _=>hf.blk g hg id⟩,fun _ h=>h,fun _ h=>.inl h,⟨fun _ _=>rfl,?_,?_,?_,?_,fun g hg=>zq1 (hm.fb g hg) hf.size,?_,hm.glob.mono (fun _ h=>h) hw⟩,?_,?_,hr⟩
 ·intro b ty k hx; rw[qC5 hv2] at hx; cases hx
 ·intro b A hx; rw[qC6 ha2] at hx; cases hx
 ·intro b b' v v' g _ _ hx; cases hx
 ·intro b v g _ hx; cases hx
 ·intro b v hx; cases hx
 ·intro b v hb; rw[hn] at hb; cases hb
 ·intro b v g _ hx; cases hx
theorem qt9{w w':World}(h:Below w.heap.size w w'):Fr w (fun _=>False) w':=⟨h.os,h.tape,h.output,h.size,fun g hg _=>h.block g hg⟩
theorem qBQ(w:World)(e:TypeId)(s:ByteArray):Fr w (fun _=>False) (Lib.bytesWorld w e s):=by
 refine⟨?_,?_,?_,?_,fun g hg _=>?_⟩ <;> (unfold Lib.bytesWorld World.freeze; split)
 all_goals first | rfl | skip
 ·exact(qd8 w.drew _).size
 ·show _<=(Array.modify _ _ _).size;rw[Array.size_modify]; exact(qd8 w.drew _).size
 ·exact(qd8 w.drew _).blk g hg id
 ·have hne:¬w.heap.size=g:=by omega
  show(Array.modify _ _ _)[g]? = _;rw[zC2,if_neg hne];exact(qd8 w.drew _).blk g hg id
/-! ### strconv.Atoi -/
def atoiT(s:List UInt8):Option (Int×Bool):=
 bif Nat.ble s.length 281474976710656 then some (match Lib.atoiAll s with
  | .ok v=>(v,false)
  | .range=>(Lib.atoiSat s,true)
  | _=>(0,true))
 else none
def jS1:J:={ regs:=[(0,.one (.data .str))],vars:=[],arrs:=[] }
def qAi(f:FuncId):Fun:={ f:=f,np:=1,nr:=2,ji:=jS1,jo:={ regs:=[(0,.one (.data (.int .i64))),(1,.one (.data .err))],vars:=[],arrs:=[] },tw:=fun x=>atoiT x }
theorem qAj{α:Type}{l:List α}(h:l.length=1):∃a,l=[a]:=by
 match l,h with
 | [a],_=>exact⟨a,rfl⟩
theorem qBR{α:Type}{l:List α}(h:l.length=2):∃a b,l=[a,b]:=by
 match l,h with
 | [a,b],_=>exact⟨a,b,rfl⟩
theorem qua{P:Program}{F:Nat->Prop}{w:World}{ρ:Env}{s t:SV}{u v:Value}(h1:Den P F w ρ s u)(h2:Den P F w ρ t v):Den P F w ρ (.tup [s,t]) (.tuple #[u,v]):=
 .tup (vs:=[u,v]) rfl fun i s' u' hs hu=>by
  match i,hs,hu with
  | 0,hs,hu=>injection hs with hs; injection hu with hu; subst hs hu; exact h1
  | 1,hs,hu=>injection hs with hs; injection hu with hu; subst hs hu; exact h2
theorem qDF{P:Program}{f:FuncId}{t5 te tp g1 g2:Nat}(hok:FnOk P f)
  (h1:∀(s:ByteArray) (_:s.size<=9223372036854775806) (v:Int) (_:Lib.atoiAll s.data.toList=.ok v) (w:World),Calls P f #[.string s] w fun e w'=>e=.returned (.tuple #[.int .i64 v,.nilIface])/\(w'=w\/∃t,w'=Lib.bytesWorld w t5 t))
  (h2:∀(s:ByteArray) (_:s.size<=281474976710656) (_:(∀v,Lib.atoiAll s.data.toList≠.ok v)/\Lib.atoiAll s.data.toList≠.range) (ev:Value) (w:World) (_:w.cell? ⟨g1,0,none⟩=some ev) (_:ev=.nilIface\/∃te pe,ev=.iface te pe),
   Calls P f #[.string s] w fun e w'=>∃N,e=.returned (.tuple #[.int .i64 (0),.iface te (.pointer (some ⟨N,0,none⟩))])/\w.heap.size<=N/\w'.heap[N]? = some (.cells #[.string ⟨#[65,116,111,105]⟩,.string s,ev] tp (0,0))/\Below w.heap.size w w')
  (h3:∀(s:ByteArray) (_:s.size<=281474976710656) (_:Lib.atoiAll s.data.toList=.range) (ev:Value) (w:World) (_:w.cell? ⟨g2,0,none⟩=some ev) (_:ev=.nilIface\/∃te pe,ev=.iface te pe),
   Calls P f #[.string s] w fun e w'=>∃N,e=.returned (.tuple #[.int .i64 (Lib.atoiSat s.data.toList),.iface te (.pointer (some ⟨N,0,none⟩))])/\w.heap.size<=N/\w'.heap[N]? = some (.cells #[.string ⟨#[65,116,111,105]⟩,.string s,ev] tp (0,0))/\Below w.heap.size w w')
  (m1:(g1,⟨.err,true⟩)∈globs) (m2:(g2,⟨.err,true⟩)∈globs):FunOk P (qAi f):=by
 refine FunOk.lib hok rfl rfl rfl rfl fun x y hxy F w ρ vs hl hb hg hd=>?_
 obtain⟨u,rfl⟩:=qAj hl;have hu:Den P F w ρ (.v .str x) u:=hd 0 u rfl;have hu':u=.string ⟨⟨x⟩⟩:=by
  cases hu with
  | v h=>obtain⟨cs,h1,h2⟩:=h; have:cs=[.string ⟨⟨x⟩⟩]:=h1; subst this; exact h2
 subst hu';have cell:∀g,(g,(⟨.err,true⟩:(τ:Ty)×τ.den))∈globs->∃ev,w.cell? ⟨g,0,none⟩=some ev/\(ev=.nilIface\/∃te pe,ev=.iface te pe):=by
  intro g hm;obtain⟨_,es,e1,e2,_⟩:=hg _ hm;obtain⟨v,rfl,_,e4⟩:=e1;exact⟨v,e2 0 v rfl,.inr (by simpa using e4)⟩
 have hxy':atoiT x=some y:=hxy;unfold atoiT at hxy';cases hs:Nat.ble (List.length x) 281474976710656 with
 | false=>rw[hs] at hxy'; cases hxy'
 | true=>
  rw[hs] at hxy'; simp only[za] at hxy';have hs':(⟨⟨x⟩⟩:ByteArray).size<=281474976710656:=zH hs;have dI:∀(w':World) (n:Int),Den P F w' (fun _=>none) (.v (.int .i64) n) (.int .i64 n):=fun w' n=>.v ⟨[.int .i64 n],rfl,rfl⟩
  cases ha:Lib.atoiAll x with
  | ok v=>
   rw[ha] at hxy'; injection hxy' with hxy'; subst hxy'
   refine(h1 ⟨⟨x⟩⟩ (by omega) v ha w).mono ?_
   rintro e w' ⟨rfl,hw⟩
   refine⟨_,rfl,?_,qua (dI _ _) (.v ⟨[.nilIface],⟨_,rfl,rfl,rfl⟩,rfl⟩)⟩
   rcases hw with rfl | ⟨t,rfl⟩
   ·exact Fr.refl _ _
   ·exact qBQ _ _ _
  | range=>
   rw[ha] at hxy'; injection hxy' with hxy'; subst hxy'
   obtain⟨ev,c1,c2⟩:=cell g2 m2;refine(h3 ⟨⟨x⟩⟩ hs' ha ev w c1 c2).mono ?_
   rintro e w' ⟨n,rfl,_,_,hw⟩
   exact⟨_,rfl,qt9 hw,qua (dI _ _) (.v ⟨[.iface te (.pointer (some ⟨n,0,none⟩))],⟨_,rfl,rfl,⟨_,_,rfl⟩⟩,rfl⟩)⟩
  | _=>
   rw[ha] at hxy'; injection hxy' with hxy'; subst hxy'
   obtain⟨ev,c1,c2⟩:=cell g1 m1;refine(h2 ⟨⟨x⟩⟩ hs' ⟨fun v e=>(by rw[show Lib.atoiAll x=_ from ha] at e; cases e),fun e=>(by rw[show Lib.atoiAll x=_ from ha] at e; cases e)⟩ ev w c1 c2).mono ?_
   rintro e w' ⟨n,rfl,_,_,hw⟩
   exact⟨_,rfl,qt9 hw,qua (dI _ _) (.v ⟨[.iface te (.pointer (some ⟨n,0,none⟩))],⟨_,rfl,rfl,⟨_,_,rfl⟩⟩,rfl⟩)⟩
/-! ### Package variables that hold numbers only; strconv.Itoa -/
def onlyI:Ty->Bool
 | .int _=>true
 | .pair a b=>onlyI a&&onlyI b
 | _=>false
def flatI:(τ:Ty)->τ.den->List Value
 | .int k,n=>[.int k n]
 | .pair a b,x=>flatI a x.1++flatI b x.2
 | _,_=>[]
theorem qrO{F:Nat->Prop}{w:World}:∀ {τ:Ty} {x:τ.den} {es:List Value},onlyI τ=true->RdC F w τ x es->es=flatI τ x
 | .int _,_,_,_,h=>h
 | .pair a b,x,_,h0,h=>by
  obtain⟨c1,c2,rfl,h1,h2⟩:=h;have h0':(onlyI a&&onlyI b)=true:=h0;rw[z8] at h0';rw[qrO h0'.1 h1,qrO h0'.2 h2]; rfl
theorem qrP{F:Nat->Prop}{w:World}:∀ {τ:Ty} {x:τ.den},onlyI τ=true->RdC F w τ x (flatI τ x)
 | .int _,_,_=>rfl
 | .pair a b,x,h0=>by
  have h0':(onlyI a&&onlyI b)=true:=h0;rw[z8] at h0';exact⟨_,_,rfl,qrP h0'.1,qrP h0'.2⟩
theorem qgM.table{P:Program}{F:Nat->Prop}{w:World}(hg:qgM F w){name:String}{g:Nat}{k:IntKind}{zs:List Int}{τ:Ty}{z:τ.den}(hn:P.globalNamed name=some g)
  (m:(g,(⟨τ,z⟩:(τ:Ty)×τ.den))∈globs) (hI:onlyI τ=true) (hz:flatI τ z=zs.map fun z=>Value.int k z):Lib.TabIs P w name k zs:=by
 obtain⟨_,es,e1,_,t,fz,e3⟩:=hg _ m;have e1':=qrO hI e1;subst e1';unfold Lib.TabIs World.var?;rw[hn];show(match w.heap[g]? with | some (.cells cs _ _)=>some cs | _=>none)=_
 rw[e3,<-hz]
def itoaT(n:Int):Option (List UInt8):=bif decide (-9223372036854775808<=n)&&decide (n<=9223372036854775807) then some (Lib.itoa n) else none
theorem qyN{n:Int}{y:List UInt8}(h:itoaT n=some y) : -9223372036854775808<=n/\n<=9223372036854775807/\y=Lib.itoa n:=by
 unfold itoaT at h;generalize hc:(decide (-9223372036854775808<=n)&&decide (n<=9223372036854775807))=c at h;cases c with
 | false=>cases h
 | true=>
  injection h with h
  rw[z8,zj,zj] at hc;exact⟨hc.1,hc.2,h.symm⟩
def qAk(f:FuncId):Fun:={ f:=f,np:=1,nr:=1,ji:={ regs:=[(0,.one (.data (.int .i64)))],vars:=[],arrs:=[] },jo:=jS1,tw:=fun x=>itoaT x }
theorem qDG{P:Program}{f:FuncId}{g:Nat}{τ:Ty}{z:τ.den}(hok:FnOk P f)(hn:P.globalNamed "internal/strconv.uint64pow10" = some g)
  (h:∀(n:Int) (_ : -9223372036854775808<=n) (_:n<=9223372036854775807) (w:World) (_:Lib.TabIs P w "internal/strconv.uint64pow10" .u64 Lib.pow10Tab),
   Calls P f #[.int .i64 n] w fun e w'=>e=.returned (.string ⟨(Lib.itoa n).toArray⟩)/\∃k os,w'=Go.Sort.grow (w.drewN k) os)
  (m:(g,(⟨τ,z⟩:(τ:Ty)×τ.den))∈globs) (hI:onlyI τ=true) (hz:flatI τ z=Lib.pow10Tab.map fun z=>Value.int .u64 z):FunOk P (qAk f):=by
 refine FunOk.lib hok rfl rfl rfl rfl fun x y hxy F w ρ vs hl hb hg hd=>?_
 obtain⟨u,rfl⟩:=qAj hl;have hu:Den P F w ρ (.v (.int .i64) x) u:=hd 0 u rfl;have hu':u=.int .i64 x:=by
  cases hu with
  | v h=>obtain⟨cs,h1,h2⟩:=h; have:cs=[.int .i64 x]:=h1; subst this; exact h2
 subst hu';obtain⟨c1,c2,c3⟩:=qyN (show itoaT x=some y from hxy)
 subst c3;refine(h x c1 c2 w (hg.table hn m hI hz)).mono ?_
 rintro e w' ⟨rfl,k,os,rfl⟩
 exact⟨_,rfl,⟨rfl,rfl,rfl,by show w.heap.size<=(w.heap++os).size; rw[z02]; omega,fun g hg _=>by show(w.heap++os)[g]? = w.heap[g]?; rw[Array.getElem?_append_left hg]⟩,.v ⟨[.string ⟨⟨Lib.itoa x⟩⟩],rfl,rfl⟩⟩
/-! ### strings.Join -/
def joinT(l:List (List UInt8))(sep:List UInt8):Option (List UInt8):=
 bif Nat.ble l.length 140737488355328&&Nat.ble (Lib.join l sep).length 140737488355328 then some (Lib.join l sep) else none
def qAl(f:FuncId):Fun:={ f:=f,np:=2,nr:=1,ji:={ regs:=[(0,.one (.data (.sl .str))),(1,.one (.data .str))],vars:=[],arrs:=[] },jo:=jS1,tw:=fun x=>joinT x.1 x.2 }
theorem qBS{P:Program}{f:FuncId}
  (h0:∀(a:Option Addr) (c:Nat) (sep:ByteArray) (w:World),Calls P f #[.slice a 0 c,.string sep] w fun e w'=>e=.returned (.string ⟨#[]⟩)/\w'=w)
  (h1:∀(bk o c:Nat) (xs:List ByteArray) (sep:ByteArray) (w:World) (_:∀(j:Nat) x,xs[j]? = some x->w.cell? ⟨bk,o+j,none⟩=some (.string x)) (_:bk<w.heap.size) (_:xs.length<=140737488355328) (_:xs.length<=c)
   (_:(Lib.join (xs.map (·.data.toList)) sep.data.toList).length<=140737488355328),
   Calls P f #[.slice (some ⟨bk,o,none⟩) xs.length c,.string sep] w fun e w'=>e=.returned (.string ⟨(Lib.join (xs.map (·.data.toList)) sep.data.toList).toArray⟩)/\Below w.heap.size w w')
  (l:List (List UInt8)) (sep y:List UInt8) (hxy':joinT l sep=some y) (F:Nat->Prop) (w:World) (ρ:Env) (u:Value) (hb:∀g,F g->g<w.heap.size) (hu:Den P F w ρ (.v (.sl .str) l) u):
  Calls P f #[u,.string ⟨⟨sep⟩⟩] w fun en w'=>∃r,en=.returned r/\Fr w (fun _=>False) w'/\Den P F w' (fun _=>none) (.v .str y) r:=by
 unfold joinT at hxy';generalize hc:(Nat.ble (List.length l) 140737488355328&&Nat.ble (Lib.join l sep).length 140737488355328)=c at hxy';cases c with
 | false=>cases hxy'
 | true=>
  injection hxy' with hxy'; subst hxy'
  rw[z8] at hc;have hc1:=zH hc.1;have hc2:=zH hc.2;have dS:∀(w':World) (s:List UInt8),Den P F w' (fun _=>none) (.v .str s) (.string ⟨s.toArray⟩):=fun w' s=>.v ⟨[.string ⟨⟨s⟩⟩],rfl,rfl⟩
  cases hu with
  | v h=>
   obtain⟨cs,⟨ad,cap,rfl,had⟩,rfl⟩:=h;have none_:List.length l=0->∀a,Calls P f #[.slice a (List.length l) cap,.string ⟨⟨sep⟩⟩] w fun en w'=>∃r,en=.returned r/\Fr w (fun _=>False) w'/\Den P F w' (fun _=>none) (.v .str (Lib.join l sep)) r:=by
    intro h0l a;have hl0:l=[]:=za1 h0l;subst hl0;refine(h0 a cap ⟨⟨sep⟩⟩ w).mono ?_
    rintro e w' ⟨rfl,rfl⟩
    exact⟨_,rfl,Fr.refl _ _,dS _ _⟩
   cases ad with
   | none=>exact none_ (by have:l=[]:=had; rw[this]; rfl) none
   | some ad=>
    by_cases h0l:List.length l=0
    ·exact none_ h0l (some ad)
    obtain⟨a1,a2,a3,a4⟩:=had;obtain⟨bk,o,sp⟩:=ad
    -- a slice whose elements are cells has no spot
    have hsp:sp=none:=by
     obtain⟨z,hz⟩:∃z,l[0]? = some z:=⟨_,zk (by omega)⟩
     obtain⟨es,b1,b2⟩:=a4 0 z hz;have b1':es=[.string ⟨⟨z⟩⟩]:=b1;subst b1';have hc0:=b2 0 _ rfl;cases sp with
     | none=>rfl
     | some q=>
      exfalso;have e1:(⟨bk,o,some q⟩:Addr).add (0*Ty.str.size+0)=⟨bk,o,some q⟩:=by rw[zA2]; rfl
      rw[e1] at hc0;unfold World.cell? at hc0;split at hc0
      ·cases hc0
      ·cases hc0
    subst hsp;have hel:∀(j:Nat) (z:List UInt8),l[j]? = some z->w.cell? ⟨bk,o+j,none⟩=some (.string ⟨⟨z⟩⟩):=by
     intro j z hz;obtain⟨es,b1,b2⟩:=a4 j z hz;have b1':es=[.string ⟨⟨z⟩⟩]:=b1;subst b1';have:=b2 0 _ rfl;rw[zi1] at this;have e1:o+(j*Ty.str.size+0)=o+j:=by show o+(j*1+0)=_; omega
     rw[e1] at this; exact this
    have hm:((l.map fun z=>(⟨⟨z⟩⟩:ByteArray)).map (·.data.toList))=l:=by rw[List.map_map]; exact List.map_id l
    have hr:=h1 bk o cap (l.map fun z=>(⟨⟨z⟩⟩:ByteArray)) ⟨⟨sep⟩⟩ w (fun j x hx=>by
     rw[zL] at hx;obtain⟨z,hz,rfl⟩:=zc1.1 hx;exact hel j z hz) (hb _ (a1 (zq1 (Nat.pos_of_ne_zero h0l) a2))) (by rw[z71]; exact hc1) (by rw[z71]; exact a2) (by rw[hm]; exact hc2)
    rw[hm,z71] at hr;refine hr.mono ?_
    rintro e w' ⟨rfl,hw⟩
    exact⟨_,rfl,qt9 hw,dS _ _⟩
theorem qDH{P:Program}{f:FuncId}(hok:FnOk P f)
  (h0:∀(a:Option Addr) (c:Nat) (sep:ByteArray) (w:World),Calls P f #[.slice a 0 c,.string sep] w fun e w'=>e=.returned (.string ⟨#[]⟩)/\w'=w)
  (h1:∀(bk o c:Nat) (xs:List ByteArray) (sep:ByteArray) (w:World) (_:∀(j:Nat) x,xs[j]? = some x->w.cell? ⟨bk,o+j,none⟩=some (.string x)) (_:bk<w.heap.size) (_:xs.length<=140737488355328) (_:xs.length<=c)
   (_:(Lib.join (xs.map (·.data.toList)) sep.data.toList).length<=140737488355328),
   Calls P f #[.slice (some ⟨bk,o,none⟩) xs.length c,.string sep] w fun e w'=>e=.returned (.string ⟨(Lib.join (xs.map (·.data.toList)) sep.data.toList).toArray⟩)/\Below w.heap.size w w'):FunOk P (qAl f):=by
 refine FunOk.lib hok rfl rfl rfl rfl fun x y hxy F w ρ vs hl hb hg hd=>?_
 obtain⟨u,v,rfl⟩:=qBR hl;obtain⟨l,sep⟩:=x;have hu:Den P F w ρ (.v (.sl .str) l) u:=hd 0 u rfl;have hv:Den P F w ρ (.v .str sep) v:=hd 1 v rfl;have hv':v=.string ⟨⟨sep⟩⟩:=by
  cases hv with
  | v h=>obtain⟨cs,h1,h2⟩:=h; have:cs=[.string ⟨⟨sep⟩⟩]:=h1; subst this; exact h2
 subst hv';exact qBS h0 h1 l sep y hxy F w ρ u hb hu
/-! ### strings.Builder: a variable of two cells: nil or its own address; its bytes -/
theorem FunOk.bif{P:Program}{e0:Fun}(h0:FunOk P e0){c:CT e0.ji.ct->Bool}{tw:CT e0.ji.ct->Option (CT e0.jo.ct)}(h1:FunOk P { f:=e0.f,np:=e0.np,nr:=e0.nr,ji:=e0.ji,jo:=e0.jo,tw:=tw }):
  FunOk P { f:=e0.f,np:=e0.np,nr:=e0.nr,ji:=e0.ji,jo:=e0.jo,tw:=fun x=>_root_.cond (c x) (e0.tw x) (tw x) }:=by
 refine⟨h0.ok,fun x y hxy=>?_⟩
 cases hc:c x with
 | true=>
  have hxy':_root_.cond (c x) (e0.tw x) (tw x)=some y:=hxy;rw[hc] at hxy'; exact h0.run x y hxy'
 | false=>
  have hxy':_root_.cond (c x) (e0.tw x) (tw x)=some y:=hxy;rw[hc] at hxy'; exact h1.run x y hxy'
end Go.Sq
