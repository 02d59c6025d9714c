/- Lemmas. No condition. -/
import Derived.Test.YtmdijohmddokhaaGreatDoorSqZ
import Derived.Lib.AtoiAll
import Derived.Lib.ConvBytes
import Derived.Lib.Join
import Derived.Lib.ItoaMem
import Derived.Lib.LaidTab
import Derived.Laws.IdiomCopy
import Derived.Shelf.Strings.Split
import Derived.Lib.IndexBytes
namespace Go.Sq
open Go Go.RowKit
/-! ### Searches for a byte -/
def idxB(s:List UInt8)(c:Int):Option Int:=some (Lib.indexByte s c.toNat.toUInt8)
def cntB(s:List UInt8)(c:Int):Option Int:=some ((Lib.countByte s c.toNat.toUInt8:Nat):Int)
def qDR(f:FuncId):Ext:={ f:=f,ps:=[.str,.int .u8],r:=.int .i64,g:=fun x=>idxB x.1 x.2.1 }
def qDS(f:FuncId):Ext:={ f:=f,ps:=[.str,.int .u8],r:=.int .i64,g:=fun x=>cntB x.1 x.2.1 }
theorem qAP{P:Program}{f:FuncId}{fn:Func}(hf:P.funcs[f]? = some fn)(hname:(fn.name == "runtime.NumGoroutine")=false)(hb:fn.body.isNone=true)(hn:Extern.findNext fn=none)(he:Extern.find fn=some Extern.BytealgIndexByte.indexByte):ExtOk P (qDR f):=by
 intro x y hxy F w vs hvs;obtain⟨s,c,x2⟩:=x;obtain⟨v1,r1,rfl,⟨cs1,h1,rfl⟩,v2,r2,rfl,⟨cs2,h2,rfl⟩,hr⟩:=hvs;have hr':r2=[]:=hr;subst hr';have h1':cs1=[.string ⟨⟨s⟩⟩]:=h1;have h2':cs2=[.int .u8 c]:=h2;subst h1' h2';have hxy':some (Lib.indexByte s (Int.toNat c).toUInt8)=some y:=hxy;injection hxy' with hxy'; subst hxy'
 refine⟨.int .i64 (Lib.indexByte s (Int.toNat c).toUInt8),?_,⟨[.int .i64 (Lib.indexByte s (Int.toNat c).toUInt8)],rfl,rfl⟩⟩
 show(callFunc f #[.string ⟨⟨s⟩⟩,.int .u8 c]).run P w=_;rw[zZ2 hf hname hb hn he];have hrun:=Lib.run_indexByteString (P:=P) ⟨⟨s⟩⟩ c w;exact(congrArg (fun r=>r.andThen fun v w'=>Result.ok (Next.value v) w') hrun).trans rfl
theorem qAQ{P:Program}{f:FuncId}{fn:Func}(hf:P.funcs[f]? = some fn)(hname:(fn.name == "runtime.NumGoroutine")=false)(hb:fn.body.isNone=true)(hn:Extern.findNext fn=none)(he:Extern.find fn=some Extern.BytealgCount.count):ExtOk P (qDS f):=by
 intro x y hxy F w vs hvs;obtain⟨s,c,x2⟩:=x;obtain⟨v1,r1,rfl,⟨cs1,h1,rfl⟩,v2,r2,rfl,⟨cs2,h2,rfl⟩,hr⟩:=hvs;have hr':r2=[]:=hr;subst hr';have h1':cs1=[.string ⟨⟨s⟩⟩]:=h1;have h2':cs2=[.int .u8 c]:=h2;subst h1' h2';have hxy':some ((Lib.countByte s (Int.toNat c).toUInt8:Nat):Int)=some y:=hxy;injection hxy' with hxy'; subst hxy'
 refine⟨.int .i64 ((Lib.countByte s (Int.toNat c).toUInt8:Nat):Int),?_,⟨[.int .i64 ((Lib.countByte s (Int.toNat c).toUInt8:Nat):Int)],rfl,rfl⟩⟩
 show(callFunc f #[.string ⟨⟨s⟩⟩,.int .u8 c]).run P w=_;rw[zZ2 hf hname hb hn he];have hrun:=Lib.run_countString (P:=P) ⟨⟨s⟩⟩ c w;exact(congrArg (fun r=>r.andThen fun v w'=>Result.ok (Next.value v) w') hrun).trans rfl
/-! ### A function of data, with flat results, of which the calls are known -/
theorem qDT{j:J}(h:j.vars=[])(x:CT j.ct)(b:Nat):(j.put0 x).v b=none:=by
 show lookV (qfJ (fun _ _=>SV.any) j.vars _).1 b=none
 rw[h]; rfl
theorem qDU{j:J}(h:j.arrs=[])(x:CT j.ct)(b:Nat):(j.put0 x).a b=none:=by
 show lookA (qkC j.arrs _) b=none;rw[h]; rfl
theorem FunOk.lib{P:Program}{e:Fun}(hok:FnOk P e.f)(hv:e.ji.vars=[])(ha:e.ji.arrs=[])(hv2:e.jo.vars=[])(ha2:e.jo.arrs=[])
  (h:∀x y,e.tw x=some y->∀(F:Nat->Prop) (w:World) (U:Env) (vs:List Value),vs.length=e.np->(∀g,F g->g<w.heap.size)->qho F w->(∀i u,vs[i]? = some u->Den P F w U ((e.ji.put0 x).r i) u)->
   Calls P e.f vs.toArray w fun en w'=>∃r,en=.returned r/\Fr w (fun _=>False) w'/\Den P F w' (fun _=>none) (resSV e.nr (e.jo.put0 y)) r):FunOk P e:=by
 refine⟨hok,fun x y hxy F w U vs hl hm hd=>?_⟩
 have hn:e.ji.names=[]:=by unfold J.names; rw[hv,ha]; rfl
 have hn2:e.jo.names=[]:=by unfold J.names; rw[hv2,ha2]; rfl
 refine(h x y hxy F w U vs hl hm.fb hm.glob hd).mono ?_
 rintro en w' ⟨r,rfl,hf,hr⟩
 have hw:∀g,F g->w'.heap[g]? = w.heap[g]?:=fun g hg=>hf.blk g (hm.fb g hg) id
 refine⟨r,F,fun _=>none,rfl,⟨hf.os,hf.tape,hf.output,hf.size,fun g hg _=>hf.blk g hg id⟩,fun _ h=>h,fun _ h=>.inl h,⟨fun _ _=>rfl,?_,?_,?_,?_,fun g hg=>zw1 (hm.fb g hg) hf.size,?_,hm.glob.mono (fun _ h=>h) hw⟩,?_,?_,hr⟩
 ·intro b ty k hx; rw[qDT hv2] at hx; cases hx
 ·intro b A hx; rw[qDU ha2] at hx; cases hx
 ·intro b b' v v' g _ _ hx; cases hx
 ·intro b v g _ hx; cases hx
 ·intro b v hx; cases hx
 ·intro b v hb; rw[hn] at hb; cases hb
 ·intro b v g _ hx; cases hx
theorem quu{w w':World}(h:Below w.heap.size w w'):Fr w (fun _=>False) w':=⟨h.os,h.tape,h.output,h.size,fun g hg _=>h.block g hg⟩
theorem qCt(w:World)(e:TypeId)(s:ByteArray):Fr w (fun _=>False) (Lib.bytesWorld w e s):=by
 refine⟨?_,?_,?_,?_,fun g hg _=>?_⟩ <;> (unfold Lib.bytesWorld World.freeze; split)
 all_goals first | rfl | skip
 ·exact(qd9 w.drew _).size
 ·show _<=(Array.modify _ _ _).size;rw[Array.size_modify]; exact(qd9 w.drew _).size
 ·exact(qd9 w.drew _).blk g hg id
 ·have hne:¬w.heap.size=g:=by omega
  show(Array.modify _ _ _)[g]? = _;rw[zB2,if_neg hne];exact(qd9 w.drew _).blk g hg id
/-! ### strconv.Atoi -/
def atoiT(s:List UInt8):Option (Int×Bool):=
 bif Nat.ble s.length 281474976710656 then some (match Lib.atoiAll s with
  | .ok v=>(v,false)
  | .range=>(Lib.atoiSat s,true)
  | _=>(0,true))
 else none
def jS1:J:={ regs:=[(0,.one (.data .str))],vars:=[],arrs:=[] }
def qAR(f:FuncId):Fun:={ f:=f,np:=1,nr:=2,ji:=jS1,jo:={ regs:=[(0,.one (.data (.int .i64))),(1,.one (.data .err))],vars:=[],arrs:=[] },tw:=fun x=>atoiT x }
theorem qxh{α:Type}{l:List α}(h:l.length=1):∃a,l=[a]:=by
 match l,h with
 | [a],_=>exact⟨a,rfl⟩
theorem quv{α:Type}{l:List α}(h:l.length=2):∃a b,l=[a,b]:=by
 match l,h with
 | [a,b],_=>exact⟨a,b,rfl⟩
theorem quw{P:Program}{F:Nat->Prop}{w:World}{U:Env}{s t:SV}{u v:Value}(h1:Den P F w U s u)(h2:Den P F w U t v):Den P F w U (.tup [s,t]) (.tuple #[u,v]):=
 .tup (vs:=[u,v]) rfl fun i s' u' hs hu=>by
  match i,hs,hu with
  | 0,hs,hu=>injection hs with hs; injection hu with hu; subst hs hu; exact h1
  | 1,hs,hu=>injection hs with hs; injection hu with hu; subst hs hu; exact h2
theorem qEw{P:Program}{f:FuncId}{t5 te tp g1 g2:Nat}(hok:FnOk P f)
  (h1:∀(s:ByteArray) (_:s.size<=9223372036854775806) (v:Int) (_:Lib.atoiAll s.data.toList=.ok v) (w:World),Calls P f #[.string s] w fun e w'=>e=.returned (.tuple #[.int .i64 v,.nilIface])/\(w'=w\/∃t,w'=Lib.bytesWorld w t5 t))
  (h2:∀(s:ByteArray) (_:s.size<=281474976710656) (_:(∀v,Lib.atoiAll s.data.toList≠.ok v)/\Lib.atoiAll s.data.toList≠.range) (ev:Value) (w:World) (_:w.cell? ⟨g1,0,none⟩=some ev) (_:ev=.nilIface\/∃te pe,ev=.iface te pe),
   Calls P f #[.string s] w fun e w'=>∃N,e=.returned (.tuple #[.int .i64 (0),.iface te (.pointer (some ⟨N,0,none⟩))])/\w.heap.size<=N/\w'.heap[N]? = some (.cells #[.string ⟨#[65,116,111,105]⟩,.string s,ev] tp (0,0))/\Below w.heap.size w w')
  (h3:∀(s:ByteArray) (_:s.size<=281474976710656) (_:Lib.atoiAll s.data.toList=.range) (ev:Value) (w:World) (_:w.cell? ⟨g2,0,none⟩=some ev) (_:ev=.nilIface\/∃te pe,ev=.iface te pe),
   Calls P f #[.string s] w fun e w'=>∃N,e=.returned (.tuple #[.int .i64 (Lib.atoiSat s.data.toList),.iface te (.pointer (some ⟨N,0,none⟩))])/\w.heap.size<=N/\w'.heap[N]? = some (.cells #[.string ⟨#[65,116,111,105]⟩,.string s,ev] tp (0,0))/\Below w.heap.size w w')
  (m1:(g1,⟨.err,true⟩)∈globs) (m2:(g2,⟨.err,true⟩)∈globs):FunOk P (qAR f):=by
 refine FunOk.lib hok rfl rfl rfl rfl fun x y hxy F w U vs hl hb hg hd=>?_
 obtain⟨u,rfl⟩:=qxh hl;have hu:Den P F w U (.v .str x) u:=hd 0 u rfl;have hu':u=.string ⟨⟨x⟩⟩:=by
  cases hu with
  | v h=>obtain⟨cs,h1,h2⟩:=h; have:cs=[.string ⟨⟨x⟩⟩]:=h1; subst this; exact h2
 subst hu';have cell:∀g,(g,(⟨.err,true⟩:(T:Ty)×T.den))∈globs->∃ev,w.cell? ⟨g,0,none⟩=some ev/\(ev=.nilIface\/∃te pe,ev=.iface te pe):=by
  intro g hm;obtain⟨_,es,e1,e2,_⟩:=hg _ hm;obtain⟨v,rfl,_,e4⟩:=e1;exact⟨v,e2 0 v rfl,.inr (by simpa using e4)⟩
 have hxy':atoiT x=some y:=hxy;unfold atoiT at hxy';cases hs:Nat.ble (List.length x) 281474976710656 with
 | false=>rw[hs] at hxy'; cases hxy'
 | true=>
  rw[hs] at hxy'; simp only[zb] at hxy';have hs':(⟨⟨x⟩⟩:ByteArray).size<=281474976710656:=zJ hs;have dI:∀(w':World) (n:Int),Den P F w' (fun _=>none) (.v (.int .i64) n) (.int .i64 n):=fun w' n=>.v ⟨[.int .i64 n],rfl,rfl⟩
  cases ha:Lib.atoiAll x with
  | ok v=>
   rw[ha] at hxy'; injection hxy' with hxy'; subst hxy'
   refine(h1 ⟨⟨x⟩⟩ (by omega) v ha w).mono ?_
   rintro e w' ⟨rfl,hw⟩
   refine⟨_,rfl,?_,quw (dI _ _) (.v ⟨[.nilIface],⟨_,rfl,rfl,rfl⟩,rfl⟩)⟩
   rcases hw with rfl | ⟨t,rfl⟩
   ·exact Fr.refl _ _
   ·exact qCt _ _ _
  | range=>
   rw[ha] at hxy'; injection hxy' with hxy'; subst hxy'
   obtain⟨ev,c1,c2⟩:=cell g2 m2;refine(h3 ⟨⟨x⟩⟩ hs' ha ev w c1 c2).mono ?_
   rintro e w' ⟨n,rfl,_,_,hw⟩
   exact⟨_,rfl,quu hw,quw (dI _ _) (.v ⟨[.iface te (.pointer (some ⟨n,0,none⟩))],⟨_,rfl,rfl,⟨_,_,rfl⟩⟩,rfl⟩)⟩
  | _=>
   rw[ha] at hxy'; injection hxy' with hxy'; subst hxy'
   obtain⟨ev,c1,c2⟩:=cell g1 m1;refine(h2 ⟨⟨x⟩⟩ hs' ⟨fun v e=>(by rw[show Lib.atoiAll x=_ from ha] at e; cases e),fun e=>(by rw[show Lib.atoiAll x=_ from ha] at e; cases e)⟩ ev w c1 c2).mono ?_
   rintro e w' ⟨n,rfl,_,_,hw⟩
   exact⟨_,rfl,quu hw,quw (dI _ _) (.v ⟨[.iface te (.pointer (some ⟨n,0,none⟩))],⟨_,rfl,rfl,⟨_,_,rfl⟩⟩,rfl⟩)⟩
/-! ### Package variables that hold numbers only; strconv.Itoa -/
def onlyI:Ty->Bool
 | .int _=>true
 | .pair a b=>onlyI a&&onlyI b
 | _=>false
def flatI:(T:Ty)->T.den->List Value
 | .int k,n=>[.int k n]
 | .pair a b,x=>flatI a x.1++flatI b x.2
 | _,_=>[]
theorem qsd{F:Nat->Prop}{w:World}:∀ {T:Ty} {x:T.den} {es:List Value},onlyI T=true->RdC F w T x es->es=flatI T x
 | .int _,_,_,_,h=>h
 | .pair a b,x,_,h0,h=>by
  obtain⟨c1,c2,rfl,h1,h2⟩:=h;have h0':(onlyI a&&onlyI b)=true:=h0;rw[z8] at h0';rw[qsd h0'.1 h1,qsd h0'.2 h2]; rfl
theorem qse{F:Nat->Prop}{w:World}:∀ {T:Ty} {x:T.den},onlyI T=true->RdC F w T x (flatI T x)
 | .int _,_,_=>rfl
 | .pair a b,x,h0=>by
  have h0':(onlyI a&&onlyI b)=true:=h0;rw[z8] at h0';exact⟨_,_,rfl,qse h0'.1,qse h0'.2⟩
theorem qho.table{P:Program}{F:Nat->Prop}{w:World}(hg:qho F w){name:String}{g:Nat}{k:IntKind}{zs:List Int}{T:Ty}{z:T.den}(hn:P.globalNamed name=some g)
  (m:(g,(⟨T,z⟩:(T:Ty)×T.den))∈globs) (hI:onlyI T=true) (hz:flatI T z=zs.map fun z=>Value.int k z):Lib.TabIs P w name k zs:=by
 obtain⟨_,es,e1,_,t,fz,e3⟩:=hg _ m;have e1':=qsd hI e1;subst e1';unfold Lib.TabIs World.var?;rw[hn];show(match w.heap[g]? with | some (.cells cs _ _)=>some cs | _=>none)=_
 rw[e3,<-hz]
def itoaT(n:Int):Option (List UInt8):=bif decide (-9223372036854775808<=n)&&decide (n<=9223372036854775807) then some (Lib.itoa n) else none
theorem qzk{n:Int}{y:List UInt8}(h:itoaT n=some y) : -9223372036854775808<=n/\n<=9223372036854775807/\y=Lib.itoa n:=by
 unfold itoaT at h;generalize hc:(decide (-9223372036854775808<=n)&&decide (n<=9223372036854775807))=c at h;cases c with
 | false=>cases h
 | true=>
  injection h with h
  rw[z8,zi,zi] at hc;exact⟨hc.1,hc.2,h.symm⟩
def qAS(f:FuncId):Fun:={ f:=f,np:=1,nr:=1,ji:={ regs:=[(0,.one (.data (.int .i64)))],vars:=[],arrs:=[] },jo:=jS1,tw:=fun x=>itoaT x }
theorem qEx{P:Program}{f:FuncId}{g:Nat}{T:Ty}{z:T.den}(hok:FnOk P f)(hn:P.globalNamed "internal/strconv.uint64pow10" = some g)
  (h:∀(n:Int) (_ : -9223372036854775808<=n) (_:n<=9223372036854775807) (w:World) (_:Lib.TabIs P w "internal/strconv.uint64pow10" .u64 Lib.pow10Tab),
   Calls P f #[.int .i64 n] w fun e w'=>e=.returned (.string ⟨(Lib.itoa n).toArray⟩)/\∃k os,w'=Go.Sort.grow (w.drewN k) os)
  (m:(g,(⟨T,z⟩:(T:Ty)×T.den))∈globs) (hI:onlyI T=true) (hz:flatI T z=Lib.pow10Tab.map fun z=>Value.int .u64 z):FunOk P (qAS f):=by
 refine FunOk.lib hok rfl rfl rfl rfl fun x y hxy F w U vs hl hb hg hd=>?_
 obtain⟨u,rfl⟩:=qxh hl;have hu:Den P F w U (.v (.int .i64) x) u:=hd 0 u rfl;have hu':u=.int .i64 x:=by
  cases hu with
  | v h=>obtain⟨cs,h1,h2⟩:=h; have:cs=[.int .i64 x]:=h1; subst this; exact h2
 subst hu';obtain⟨c1,c2,c3⟩:=qzk (show itoaT x=some y from hxy)
 subst c3;refine(h x c1 c2 w (hg.table hn m hI hz)).mono ?_
 rintro e w' ⟨rfl,k,os,rfl⟩
 exact⟨_,rfl,⟨rfl,rfl,rfl,by show w.heap.size<=(w.heap++os).size; rw[z62]; omega,fun g hg _=>by show(w.heap++os)[g]? = w.heap[g]?; rw[Array.getElem?_append_left hg]⟩,.v ⟨[.string ⟨⟨Lib.itoa x⟩⟩],rfl,rfl⟩⟩
/-! ### strings.Join -/
def joinT(l:List (List UInt8))(sep:List UInt8):Option (List UInt8):=
 bif Nat.ble l.length 140737488355328&&Nat.ble (Lib.join l sep).length 140737488355328 then some (Lib.join l sep) else none
def qAT(f:FuncId):Fun:={ f:=f,np:=2,nr:=1,ji:={ regs:=[(0,.one (.data (.sl .str))),(1,.one (.data .str))],vars:=[],arrs:=[] },jo:=jS1,tw:=fun x=>joinT x.1 x.2 }
theorem qCu{P:Program}{f:FuncId}
  (h0:∀(a:Option Addr) (c:Nat) (sep:ByteArray) (w:World),Calls P f #[.slice a 0 c,.string sep] w fun e w'=>e=.returned (.string ⟨#[]⟩)/\w'=w)
  (h1:∀(bk o c:Nat) (xs:List ByteArray) (sep:ByteArray) (w:World) (_:∀(j:Nat) x,xs[j]? = some x->w.cell? ⟨bk,o+j,none⟩=some (.string x)) (_:bk<w.heap.size) (_:xs.length<=140737488355328) (_:xs.length<=c)
   (_:(Lib.join (xs.map (·.data.toList)) sep.data.toList).length<=140737488355328),
   Calls P f #[.slice (some ⟨bk,o,none⟩) xs.length c,.string sep] w fun e w'=>e=.returned (.string ⟨(Lib.join (xs.map (·.data.toList)) sep.data.toList).toArray⟩)/\Below w.heap.size w w')
  (l:List (List UInt8)) (sep y:List UInt8) (hxy':joinT l sep=some y) (F:Nat->Prop) (w:World) (U:Env) (u:Value) (hb:∀g,F g->g<w.heap.size) (hu:Den P F w U (.v (.sl .str) l) u):
  Calls P f #[u,.string ⟨⟨sep⟩⟩] w fun en w'=>∃r,en=.returned r/\Fr w (fun _=>False) w'/\Den P F w' (fun _=>none) (.v .str y) r:=by
 unfold joinT at hxy';generalize hc:(Nat.ble (List.length l) 140737488355328&&Nat.ble (Lib.join l sep).length 140737488355328)=c at hxy';cases c with
 | false=>cases hxy'
 | true=>
  injection hxy' with hxy'; subst hxy'
  rw[z8] at hc;have hc1:=zJ hc.1;have hc2:=zJ hc.2;have dS:∀(w':World) (s:List UInt8),Den P F w' (fun _=>none) (.v .str s) (.string ⟨s.toArray⟩):=fun w' s=>.v ⟨[.string ⟨⟨s⟩⟩],rfl,rfl⟩
  cases hu with
  | v h=>
   obtain⟨cs,⟨ad,cap,rfl,had⟩,rfl⟩:=h;have none_:List.length l=0->∀a,Calls P f #[.slice a (List.length l) cap,.string ⟨⟨sep⟩⟩] w fun en w'=>∃r,en=.returned r/\Fr w (fun _=>False) w'/\Den P F w' (fun _=>none) (.v .str (Lib.join l sep)) r:=by
    intro h0l a;have hl0:l=[]:=zk1 h0l;subst hl0;refine(h0 a cap ⟨⟨sep⟩⟩ w).mono ?_
    rintro e w' ⟨rfl,rfl⟩
    exact⟨_,rfl,Fr.refl _ _,dS _ _⟩
   cases ad with
   | none=>exact none_ (by have:l=[]:=had; rw[this]; rfl) none
   | some ad=>
    by_cases h0l:List.length l=0
    ·exact none_ h0l (some ad)
    obtain⟨a1,a2,a3,a4⟩:=had;obtain⟨bk,o,sp⟩:=ad
    -- a slice whose elements are cells has no spot
    have hsp:sp=none:=by
     obtain⟨z,hz⟩:∃z,l[0]? = some z:=⟨_,zj (by omega)⟩
     obtain⟨es,b1,b2⟩:=a4 0 z hz;have b1':es=[.string ⟨⟨z⟩⟩]:=b1;subst b1';have hc0:=b2 0 _ rfl;cases sp with
     | none=>rfl
     | some q=>
      exfalso;have e1:(⟨bk,o,some q⟩:Addr).add (0*Ty.str.size+0)=⟨bk,o,some q⟩:=by rw[zx2]; rfl
      rw[e1] at hc0;unfold World.cell? at hc0;split at hc0
      ·cases hc0
      ·cases hc0
    subst hsp;have hel:∀(j:Nat) (z:List UInt8),l[j]? = some z->w.cell? ⟨bk,o+j,none⟩=some (.string ⟨⟨z⟩⟩):=by
     intro j z hz;obtain⟨es,b1,b2⟩:=a4 j z hz;have b1':es=[.string ⟨⟨z⟩⟩]:=b1;subst b1';have:=b2 0 _ rfl;rw[zo1] at this;have e1:o+(j*Ty.str.size+0)=o+j:=by show o+(j*1+0)=_; omega
     rw[e1] at this; exact this
    have hm:((l.map fun z=>(⟨⟨z⟩⟩:ByteArray)).map (·.data.toList))=l:=by rw[zR2]; exact za3 l
    have hr:=h1 bk o cap (l.map fun z=>(⟨⟨z⟩⟩:ByteArray)) ⟨⟨sep⟩⟩ w (fun j x hx=>by
     rw[zH] at hx;obtain⟨z,hz,rfl⟩:=zg1.1 hx;exact hel j z hz) (hb _ (a1 (zw1 (Nat.pos_of_ne_zero h0l) a2))) (by rw[zQ]; exact hc1) (by rw[zQ]; exact a2) (by rw[hm]; exact hc2)
    rw[hm,zQ] at hr;refine hr.mono ?_
    rintro e w' ⟨rfl,hw⟩
    exact⟨_,rfl,quu hw,dS _ _⟩
theorem qEy{P:Program}{f:FuncId}(hok:FnOk P f)
  (h0:∀(a:Option Addr) (c:Nat) (sep:ByteArray) (w:World),Calls P f #[.slice a 0 c,.string sep] w fun e w'=>e=.returned (.string ⟨#[]⟩)/\w'=w)
  (h1:∀(bk o c:Nat) (xs:List ByteArray) (sep:ByteArray) (w:World) (_:∀(j:Nat) x,xs[j]? = some x->w.cell? ⟨bk,o+j,none⟩=some (.string x)) (_:bk<w.heap.size) (_:xs.length<=140737488355328) (_:xs.length<=c)
   (_:(Lib.join (xs.map (·.data.toList)) sep.data.toList).length<=140737488355328),
   Calls P f #[.slice (some ⟨bk,o,none⟩) xs.length c,.string sep] w fun e w'=>e=.returned (.string ⟨(Lib.join (xs.map (·.data.toList)) sep.data.toList).toArray⟩)/\Below w.heap.size w w'):FunOk P (qAT f):=by
 refine FunOk.lib hok rfl rfl rfl rfl fun x y hxy F w U vs hl hb hg hd=>?_
 obtain⟨u,v,rfl⟩:=quv hl;obtain⟨l,sep⟩:=x;have hu:Den P F w U (.v (.sl .str) l) u:=hd 0 u rfl;have hv:Den P F w U (.v .str sep) v:=hd 1 v rfl;have hv':v=.string ⟨⟨sep⟩⟩:=by
  cases hv with
  | v h=>obtain⟨cs,h1,h2⟩:=h; have:cs=[.string ⟨⟨sep⟩⟩]:=h1; subst this; exact h2
 subst hv';exact qCu h0 h1 l sep y hxy F w U u hb hu
/-! ### strings.Builder: a variable of two cells: nil or its own address; its bytes -/
def jB(c0:Sh1)(regs:List (Nat×Sh))(TB TU:TypeId):J:={ regs:=regs,vars:=[(0,TB,[c0,.own 1])],arrs:=[(1,.arr TU (.int .u8))] }
def funCC(f TB TU:Nat):Fun:={ f:=f,np:=1,nr:=0,ji:=jB (.nptr 0 0) [(0,.one (.ptr 0 0))] TB TU,jo:=jB (.ptr 0 0) [] TB TU,tw:=fun x=>some x }
theorem cc_ok{P:Program}{f TB TU:Nat}(hok:FnOk P f)
  (h0:∀(b:Nat) (w:World) (_:w.cell? ⟨b,0,none⟩=some (.pointer none)) (_:w.shape? b=some (TB,2)) (_:w.frozen? ⟨b,0,none⟩=false),Calls P f #[.pointer (some ⟨b,0,none⟩)] w fun e w'=>e=.returned (.tuple #[])/\w'=w.setCell ⟨b,0,none⟩ (.pointer (some ⟨b,0,none⟩)))
  (h1:∀(b:Nat) (w:World) (_:w.cell? ⟨b,0,none⟩=some (.pointer (some ⟨b,0,none⟩))),Calls P f #[.pointer (some ⟨b,0,none⟩)] w fun e w'=>e=.returned (.tuple #[])/\w'=w):FunOk P (funCC f TB TU):=by
 refine⟨hok,fun x y hxy F w U vs hl hm hd=>?_⟩
 have hxy':some x=some y:=hxy;injection hxy' with hxy'; subst hxy'
 obtain⟨u,rfl⟩:=qxh hl;have hu:Den P F w U (.ptr 0 0) u:=hd 0 u rfl;have hnm:∀b v,U b=some v->b∈(funCC f TB TU).ji.names:=by
  intro b v hv;by_cases hb:b∈(funCC f TB TU).ji.names
  ·exact hb
  ·have hd0:((funCC f TB TU).ji.put0 x).d b=false:=zM.2 fun hh=>hb (qaU.1 (show memN (funCC f TB TU).ji.names b=true from hh))
   rw[hm.dom b hd0] at hv; cases hv
 cases hu with
 | ptr hρ=>
  rename_i g;obtain⟨g',arr,v1,v2,v3,v4⟩:=hm.var 0 TB 2 rfl;rw[hρ] at v1; injection v1 with v1; injection v1 with v1; injection v1 with v1; cases v1
  obtain⟨p,q,rfl⟩:∃p q,arr=#[p,q]:=by
   obtain⟨l⟩:=arr;obtain⟨p,q,rfl⟩:=quv (by simpa using v3)
   exact⟨p,q,rfl⟩
  have d0:Den P F w U (.nptr 0 0) p:=(v4 0 p rfl).1;have d1:Den P F w U (.own 1) q:=(v4 1 q rfl).1;have hinit:Rel' P w ⟨InBlk U (funCC f TB TU).ji.names,fun _=>none⟩ 0 F U { (funCC f TB TU).ji.put0 x with r:=fun _=>.any } { tmps:=#[],defers:=[] } w:=
   ⟨Fr.refl w _,hm.congr rfl rfl rfl rfl,fun b v g hp hv hg=>.inl ⟨b,v,hnm b v hv,hv,hg⟩,fun t=>.any _,rfl,rfl,fun b v h=>by cases h⟩
  have h2:=hinit.setVar (b:=0) (k:=2) (g:=g) (ty:=TB) (arr':=#[.pointer (some ⟨g,0,none⟩),q]) (st':={ (funCC f TB TU).jo.put0 x with r:=fun _=>.any }) rfl hρ rfl rfl rfl rfl rfl
   (fun b' j hb=>by
    cases b' with
    | zero=>exact absurd rfl hb
    | succ b'=>rfl)
   (fun j z hz=>by
    match j,hz with
    | 0,hz=>cases hz; exact⟨.ptr hρ,rfl⟩
    | 1,hz=>cases hz; exact⟨d1,(v4 1 _ rfl).2⟩
    | j+2,hz=>simp at hz)
  have fin:∀w',w'=w.setRow g #[.pointer (some ⟨g,0,none⟩),q]->∃r F' U',Ending.returned (.tuple #[])=.returned r/\Fr w (InBlk U (funCC f TB TU).ji.names) w'/\(∀g,F g->F' g)/\(∀g,F' g->F g\/InBlk U (funCC f TB TU).ji.names g\/w.heap.size<=g)/\MemOk P F' w' U' ((funCC f TB TU).jo.put0 x)∧
    (∀b v,b∈(funCC f TB TU).ji.names->b∈(funCC f TB TU).jo.names->U b=some v->U' b=some v)/\(∀b v g,((funCC f TB TU).jo.put0 x).present b->U' b=some v->blkOf v=some g->InBlk U (funCC f TB TU).ji.names g\/w.heap.size<=g)/\Den P F' w' U' (resSV (funCC f TB TU).nr ((funCC f TB TU).jo.put0 x)) r:=by
   rintro w' rfl
   exact⟨_,F,U,rfl,h2.fr,fun _ h=>h,fun _ h=>.inl h,h2.mem.congr rfl rfl rfl rfl,fun _ _ _ _ h=>h,fun b v k _ hv hg=>.inl ⟨b,v,hnm b v hv,hv,hg⟩,.tup (ss:=[]) (vs:=[]) rfl (fun i s u hs=>by simp at hs)⟩
  cases d0 with
  | nptr d0=>
   have hc0:w.cell? ⟨g,0,none⟩=some p:=by simp[World.cell?,v2]
   rcases d0 with rfl | ⟨g2,e1,rfl⟩
   ·refine(h0 g w hc0 (by simp[World.shape?,v2]) (by simp[World.frozen?,v2])).mono ?_
    rintro e w' ⟨rfl,rfl⟩
    refine fin _ ?_
    rw[setCell_eq_setRow w g 0 _ _ _ _ v2];rfl
   ·rw[hρ] at e1; injection e1 with e1; injection e1 with e1; injection e1 with e1; cases e1
    refine(h1 g w hc0).mono ?_
    rintro e w' ⟨rfl,hw⟩
    refine fin _ ?_
    rw[setRow_self w g _ _ _ v2,hw]
theorem FunOk.bif{P:Program}{e0:Fun}(h0:FunOk P e0){c:CT e0.ji.ct->Bool}{tw:CT e0.ji.ct->Option (CT e0.jo.ct)}(h1:FunOk P { f:=e0.f,np:=e0.np,nr:=e0.nr,ji:=e0.ji,jo:=e0.jo,tw:=tw }):
  FunOk P { f:=e0.f,np:=e0.np,nr:=e0.nr,ji:=e0.ji,jo:=e0.jo,tw:=fun x=>_root_.cond (c x) (e0.tw x) (tw x) }:=by
 refine⟨h0.ok,fun x y hxy=>?_⟩
 cases hc:c x with
 | true=>
  have hxy':_root_.cond (c x) (e0.tw x) (tw x)=some y:=hxy;rw[hc] at hxy'; exact h0.run x y hxy'
 | false=>
  have hxy':_root_.cond (c x) (e0.tw x) (tw x)=some y:=hxy;rw[hc] at hxy'; exact h1.run x y hxy'
theorem qhu(g:Nat):∀(vs:List Value) (o:Nat) (w:World) (cur:Array Value) (t:TypeId) (fz:Nat×Nat),w.heap[g]? = some (.cells cur t fz)->o+vs.length<=cur.size->
  w.setCells g o vs=w.setRow g (cur.toList.take o++vs++cur.toList.drop (o+vs.length)).toArray
 | [],o,w,cur,t,fz,hg,_=>by
  have:(cur.toList.take o++[]++cur.toList.drop (o+([]:List Value).length)).toArray=cur:=by simp
  rw[this,setRow_self w g cur t fz hg]; rfl
 | v::vs,o,w,cur,t,fz,hg,hl=>by
  simp only[zf] at hl;show(w.setCell ⟨g,o,none⟩ v).setCells g (o+1) vs=_;rw[setCell_eq_setRow w g o cur t fz v hg,qhu g vs (o+1) _ (cur.setIfInBounds o v) t fz (zs2 w g cur _ t fz hg) (by simp; omega),setRow_setRow]
  congr 2;have h1:(cur.setIfInBounds o v).toList=cur.toList.take o++v::cur.toList.drop (o+1):=by
   rw[Array.toList_setIfInBounds,List.set_eq_take_append_cons_drop,if_pos (by simpa using (by omega:o<cur.size))]
  have hto:(cur.toList.take o).length=o:=by simp; omega
  rw[h1];have e1:(cur.toList.take o++v::cur.toList.drop (o+1)).take (o+1)=cur.toList.take o++[v]:=by
   rw[zT2,hto,zB (by omega),z32]; rfl
  have e2:(cur.toList.take o++v::cur.toList.drop (o+1)).drop (o+1+vs.length)=cur.toList.drop (o+(vs.length+1)):=by
   rw[zW1,hto,z21 (by omega),zF,show o+1+vs.length-o=vs.length+1 by omega,List.drop_succ_cons,zI1]
   congr 1; omega
  rw[e1,e2]; simp
theorem qyi{α:Type}{R vs:List α}{o:Nat}(h:o<=R.length):(R.take o++vs++R.drop (o+vs.length)).take (o+vs.length)=R.take o++vs:=by
 have:(R.take o++vs).length=o+vs.length:=by simp; omega
 rw[zl1 (by omega),zB (by omega)]
variable {P:Program} {F:Nat->Prop} {w:World}
theorem qCv{e:Ty}{l:List e.den}{xs:List Value}(hx:∀(i:Nat) (x:e.den),l[i]? = some x->RdC F w e x ((xs.drop (i*e.size)).take e.size))(j i:Nat)(x:e.den)(h:(l.take j)[i]? = some x):
  RdC F w e x (((xs.take (j*e.size)).drop (i*e.size)).take e.size):=by
 rw[zr] at h;split at h
 ·rename_i hij;have hk:i*e.size+e.size<=j*e.size:=by rw[<-ze2]; exact zD _ hij
  rw[zY1,zO1,ze1 (by omega)]
  exact hx i x h
 ·cases h
theorem qCw{e:Ty}{l:List e.den}{xs:List Value}(hx:∀(i:Nat) (x:e.den),l[i]? = some x->RdC F w e x ((xs.drop (i*e.size)).take e.size))(j i:Nat)(x:e.den)(h:(l.drop j)[i]? = some x):
  RdC F w e x (((xs.drop (j*e.size)).drop (i*e.size)).take e.size):=by
 rw[zE] at h;rw[zI1,<-z61];exact hx _ x h
def insT{α:Type}(bytes:Nat)(i:Int)(l v:List α):Option (List α):=
 bif decide (0<=i)&&decide (i<=(l.length:Int))&&Nat.beq v.length 1&&fits (l.length+1) bytes then some (l.take i.toNat++v++l.drop i.toNat) else none
def qhv(f:FuncId)(ty:TypeId)(e:Ty)(bytes:Nat):Fun:=
 { f:=f,np:=3,nr:=1,ji:={ regs:=[(0,.one (.own 0)),(1,.one (.data (.int .i64))),(2,.one (.own 1))],vars:=[],arrs:=[(0,.arr ty e),(1,.arr ty e)] },jo:={ regs:=[(0,.one (.own 2))],vars:=[],arrs:=[(2,.arr ty e)] },tw:=fun x=>insT bytes x.1 x.2.1 x.2.2 }
theorem qxi(ty:TypeId)(e:Ty)(l:List e.den):ObSh.put (.arr ty e) (.v (.sl e) l)=some (.arr ty e l):=by simp[ObSh.put,SV.asCt]
theorem qFv{f:FuncId}{t ty:TypeId}{e:Ty}{bytes:Nat}{zv:Value}(hok:FnOk P f)(ht:P.underlying t=some (.slice ty))(hi0:∃i,P.info? ty=some i/\i.size=e.size/\i.bytes=bytes/\i.zero=some zv)(hzs:zv.cells.size=e.size)(hk:0<e.size)(hby:0<bytes)
  (hEnd:∀(base:Option Addr) (n c vb voff vc:Nat) (w:World) (_:n<=c) (_:c<=9223372036854775807) (_:base=none->n=0/\c=0) (v':Value) (w1:World)
   (_:∀rt,(Builtin.append_ #[t,t] rt #[.slice base n c,.slice (some ⟨vb,voff,none⟩) 1 vc]).run P w=.ok v' w1),
   Calls P f #[.slice base n c,.int .i64 n,.slice (some ⟨vb,voff,none⟩) 1 vc] w fun e w'=>e=.returned v'/\w'=w1)
  (hGrow:∀(b n c i vb voff vc:Nat) (cs vs:List Value) (w:World) (_:i<n) (_:n<=c) (_:c<n+1) (_:(n+1)*bytes<=140737488355328) (_:cs.length=n*e.size) (_:vs.length=e.size)
   (_:∀j v,cs[j]? = some v->w.cell? ⟨b,j,none⟩=some v) (_:∀j v,vs[j]? = some v->w.cell? ⟨vb,voff+j,none⟩=some v) (_:∀v∈cs,v.oneCell'=true) (_:∀v∈vs,v.oneCell'=true),
   Calls P f #[.slice (some ⟨b,0,none⟩) n c,.int .i64 i,.slice (some ⟨vb,voff,none⟩) 1 vc] w fun en w'=>∃(ROW:Array Value) (G:Nat),ROW.size=G*e.size/\n+1<=G/\G<=maxLen/\ROW.toList.take (i*e.size)=cs.take (i*e.size)∧
    en=.returned (.slice (some ⟨w.heap.size,0,none⟩) (n+1) G)/\w'=(((w.alloc (.cells ROW ty)).drew.setCells w.heap.size (i*e.size) vs).drew).setCells w.heap.size ((i+1)*e.size) (cs.drop (i*e.size)))
  (hShift:∀(b n c i vb voff vc:Nat) (cs vs:List Value) (w:World) (_:i<n) (_:n+1<=c) (_:c<=9223372036854775807) (_:vb≠b) (_:cs.length=n*e.size) (_:vs.length=e.size) (_:∀j v,cs[j]? = some v->w.cell? ⟨b,j,none⟩=some v)
   (_:∀j,j<(n+1)*e.size->(w.cell? ⟨b,j,none⟩).isSome=true) (_:∀j,j<(n+1)*e.size->w.frozen? ⟨b,j,none⟩=false) (_:∀j v,vs[j]? = some v->w.cell? ⟨vb,voff+j,none⟩=some v)
   (_:∀v∈cs,v.oneCell'=true) (_:∀v∈vs,v.oneCell'=true) (tA tB:TypeId) (kA kB:Nat) (_:w.shape? vb=some (tA,kA)) (_:w.shape? b=some (tB,kB)) (_:kB≠0) (_:w.frozen? ⟨vb,voff,none⟩=false) (_:w.frozen? ⟨vb,kA,none⟩=false),
   Calls P f #[.slice (some ⟨b,0,none⟩) n c,.int .i64 i,.slice (some ⟨vb,voff,none⟩) 1 vc] w fun en w'=>en=.returned (.slice (some ⟨b,0,none⟩) (n+1) c)/\w'=(w.drew.setCells b ((i+1)*e.size) (cs.drop (i*e.size))).setCells b (i*e.size) vs):
  FunOk P (qhv f ty e bytes):=by
 refine⟨hok,fun(x:Int×List e.den×List e.den) (y:List e.den) hxy F w U vs hl hm hd=>?_⟩
 obtain⟨i,l,v⟩:=x;have hxy':insT bytes i l v=some y:=hxy;unfold insT at hxy';generalize hc:(decide (0<=i)&&decide (i<=(l.length:Int))&&Nat.beq v.length 1&&fits (l.length+1) bytes)=c at hxy';cases c with
 | false=>cases hxy'
 | true=>
 injection hxy' with hxy'
 simp only[z8,zi] at hc;obtain⟨⟨⟨c1,c2⟩,c3⟩,c4⟩:=hc;have c3:=zd c3;have c4:(l.length+1)*bytes<=140737488355328:=zJ c4;obtain⟨k,rfl⟩:=Int.eq_ofNat_of_zero_le c1;rw[za] at hxy';have hkn:k<=l.length:=by omega
 subst hxy';obtain⟨u0,u1,u2,rfl⟩:∃a b c,vs=[a,b,c]:=by
  match vs,hl with
  | [a,b,c],_=>exact⟨a,b,c,rfl⟩
 have h0:Den P F w U (.own 0) u0:=hd 0 u0 rfl;have h1:Den P F w U (.v (.int .i64) (k:Int)) u1:=hd 1 u1 rfl;have h2:Den P F w U (.own 1) u2:=hd 2 u2 rfl;have hu1:u1=.int .i64 (k:Int):=by
  cases h1 with
  | v h=>obtain⟨cs,h1,h2⟩:=h; have:cs=[.int .i64 (k:Int)]:=h1; subst this; exact h2
 subst hu1;have hρ0:U 0=some u0:=by cases h0 with | own h=>exact h
 have hρ1:U 1=some u2:=by cases h2 with | own h=>exact h
 have hA0:((qhv f ty e bytes).ji.put0 ((k:Int),l,v)).a 0=some (.arr ty e l):=qxi ty e l;have hA1:((qhv f ty e bytes).ji.put0 ((k:Int),l,v)).a 1=some (.arr ty e v):=qxi ty e v;have hp0:((qhv f ty e bytes).ji.put0 ((k:Int),l,v)).present 0:=.inr (by rw[hA0]; simp)
 have hp1:((qhv f ty e bytes).ji.put0 ((k:Int),l,v)).present 1:=.inr (by rw[hA1]; simp)
 obtain⟨u0',q1,xs,q2,q3⟩:=hm.arr 0 _ hA0;rw[hρ0] at q1; cases q1
 obtain⟨u2',z1,ys,z2,z3⟩:=hm.arr 1 _ hA1;rw[hρ1] at z1; cases z1
 rw[c3] at z2;have hyl:ys.length=e.size:=by rw[z2.1,zH1]
 have hone:∀ {l:List e.den} {xs:List Value} {n:Nat},l.length=n->xs.length=n*e.size->(∀(i:Nat) (x:e.den),l[i]? = some x->RdC F w e x ((xs.drop (i*e.size)).take e.size))->∀u∈xs,u.oneCell'=true:=by
  intro l xs n hln hxl hx u hu;obtain⟨j,hj⟩:=zq1 hu;have hjl:j<l.length*e.size:=by rw[hln,<-hxl]; exact(zp.1 hj).1
  have hi:j/e.size<l.length:=zV2 (by rw[zd2]; exact hjl)
  have:=hx (j/e.size) _ (zj hi);refine this.one u (zK (i:=j%e.size) ?_)
  rw[zr,if_pos (Nat.mod_lt _ hk),zE,show j/e.size*e.size+j%e.size=j by rw[zd2]; exact z13 j e.size]
  exact hj
 have h1c:=hone rfl q2.1 q3;have h1v:=hone c3 z2.1 z3;have hFu:∀g,F g->blkOf u0≠some g:=fun g hF hb=>hm.own 0 u0 g hp0 hρ0 hb hF
 have hin0:∀g,blkOf u0=some g->InBlk U (qhv f ty e bytes).ji.names g:=fun g hg=>⟨0,u0,by show(0:Nat)∈[0,1]; simp,hρ0,hg⟩
 have fin:∀(r:Value) (w':World) (rs:List Value),OwnR w' ty e.size r (l.length+1) rs->Fr w (fun g=>blkOf u0=some g) w'->(blkOf r=blkOf u0\/∀g,blkOf r=some g->w.heap.size<=g)->rs=xs.take (k*e.size)++ys++xs.drop (k*e.size)->
   ∃r' F' U',Ending.returned r=.returned r'/\Fr w (InBlk U (qhv f ty e bytes).ji.names) w'/\(∀g,F g->F' g)/\(∀g,F' g->F g\/InBlk U (qhv f ty e bytes).ji.names g\/w.heap.size<=g)/\MemOk P F' w' U' ((qhv f ty e bytes).jo.put0 (l.take k++v++l.drop k))∧
    (∀b v,b∈(qhv f ty e bytes).ji.names->b∈(qhv f ty e bytes).jo.names->U b=some v->U' b=some v)/\(∀b' v' g,((qhv f ty e bytes).jo.put0 (l.take k++v++l.drop k)).present b'->U' b'=some v'->blkOf v'=some g->InBlk U (qhv f ty e bytes).ji.names g\/w.heap.size<=g)/\Den P F' w' U' (resSV (qhv f ty e bytes).nr ((qhv f ty e bytes).jo.put0 (l.take k++v++l.drop k))) r':=by
  intro r w' rs ho hf hb hrs;have hw:∀g,F g->w'.heap[g]? = w.heap[g]?:=fun g hg=>hf.blk g (hm.fb g hg) (hFu g hg)
  have hlen:(l.take k++v++l.drop k).length=l.length+1:=by simp[c3]; omega
  have hel:∀(q:Nat) (z:e.den),(l.take k++v++l.drop k)[q]? = some z->RdC F w' e z ((rs.drop (q*e.size)).take e.size):=by
   intro q z hz;have hkk:k*e.size<=xs.length:=by rw[q2.1]; exact zD _ hkn
   have:=qjW (e:=e) (w':=w) (F:=F) (l:=l.take k++v) (l2:=l.drop k) (xs:=xs.take (k*e.size)++ys) (news:=xs.drop (k*e.size)) (by
    rw[ze,zm,ze1 hkk,ze,zm,ze1 hkn,z61,c3,zH1,hyl])
    (qjW (by rw[zm,ze1 hkk,zm,ze1 hkn]) (qCv q3 k) z3) (qCw q3 k) q z hz
   rw[hrs];exact this.mono (fun _ h=>h) hw
  have hgo:∀b' v',(fun b=>if b=2 then some r else none:Env) b'=some v'->b'=2/\v'=r:=by
   intro b' v' h;by_cases hb':b'=2
   ·subst hb'; injection h with h; exact⟨rfl,h.symm⟩
   ·have h':(if b'=2 then some r else none)=some v':=h
    rw[if_neg hb'] at h'; cases h'
  have hAo:∀b' A,((qhv f ty e bytes).jo.put0 (l.take k++v++l.drop k)).a b'=some A->b'=2/\A=.arr ty e (l.take k++v++l.drop k):=by
   intro b' A h;have h':(bif Nat.beq b' 2 then ObSh.put (.arr ty e) (.v (.sl e) (l.take k++v++l.drop k)) else none)=some A:=h;rw[qxi] at h';by_cases hb':b'=2
   ·subst hb'; injection h' with h'; exact⟨rfl,h'.symm⟩
   ·rw[bq hb'] at h'; cases h'
  refine⟨r,F,fun b=>if b=2 then some r else none,rfl,⟨hf.os,hf.tape,hf.output,hf.size,fun g hg hn=>hf.blk g hg fun hh=>hn (hin0 g hh)⟩,fun _ h=>h,fun _ h=>.inl h,⟨?_,?_,?_,?_,?_,fun g hg=>zw1 (hm.fb g hg) hf.size,?_,hm.glob.mono (fun _ h=>h) hw⟩,?_,?_,.own rfl⟩
  ·intro b' hb';have hb2:b'≠2:=fun e=>by subst e; cases hb'
   show(if b'=2 then some r else none)=none
   rw[if_neg hb2]
  ·intro b' ty' k' h; cases h
  ·intro b' A h;obtain⟨rfl,rfl⟩:=hAo b' A h;exact⟨r,rfl,rs,by rw[hlen]; exact ho,hel⟩
  ·intro b' b'' v' v'' g _ _ h' h'' _ _;rw[(hgo _ _ h').1,(hgo _ _ h'').1]
  ·intro b' v' g _ h' hg hF;rw[(hgo _ _ h').2] at hg;rcases hb with hb | hb
   ·rw[hb] at hg; exact hFu g hF hg
   ·have:=hb g hg; have:=hm.fb g hF; omega
  ·intro b' v' h';rw[(hgo _ _ h').2];rcases ho.2 with⟨ad,h3,_⟩ | ⟨g,cap,cur,h3,_⟩ <;> rw[h3] <;> rfl
  ·intro b' v' _ hb' _;exfalso;have:b'∈[2]:=hb';simp only[zZ] at this;subst this;rename_i hj _;have:(2:Nat)∈[0,1]:=hj;simp at this
  ·intro b' v' g _ h' hg;rw[(hgo _ _ h').2] at hg;rcases hb with hb | hb
   ·rw[hb] at hg; exact .inl (hin0 g hg)
   ·exact .inr (hb g hg)
 -- the value that is put in
 rcases z2.2 with⟨ad,_,hn⟩ | ⟨vb,vcap,vcur,rfl,v4,v5,v6,v7,v8⟩
 ·cases hn
 have hvs:∀j u,ys[j]? = some u->w.cell? ⟨vb,0+j,none⟩=some u:=fun j u hj=>by
  have:=z2.cells (g:=vb) rfl j u hj;rwa[zo1] at this
 have hvblk:blkOf (.slice (some ⟨vb,0,none⟩) 1 (vcap+1))=some vb:=rfl;by_cases hkl:k=l.length
 ·-- at the end
  subst hkl;obtain⟨v',w',k1,k2,k3,k4⟩:=qoT (P:=P) (w:=w) t 0 ty e.size bytes zv ht hi0 hzs hk u0 l.length xs q2 ⟨vb,0,none⟩ 1 (vcap+1) ys z2.1 (fun j u hj=>z2.cells (g:=vb) rfl j u hj) h1v (by
   have:l.length+1<=140737488355328:=zA (z42 _ hby) c4;simp only[maxLen]; omega) c4
  have hrun:∀rt,(Builtin.append_ #[t,t] rt #[u0,.slice (some ⟨vb,0,none⟩) 1 (vcap+1)]).run P w=.ok v' w':=fun rt=>k1
  have hres:=fin v' w' (xs++ys) k2 ⟨k3.os,k3.tape,k3.output,k3.size,fun g hg hn=>k3.block g hg (fun e=>hn e.symm)⟩ k4 (by
   rw[zB (by rw[q2.1]; omega),z21 (by rw[q2.1]; omega),zG])
  rcases q2.2 with⟨ad,rfl,hn⟩ | ⟨g,cap,cur,rfl,hcur,hnc,hcm,hcs,htake⟩
  ·have hl0:l=[]:=zk1 hn;subst hl0;refine(hEnd ad 0 0 vb 0 (vcap+1) w (zP _) (by omega) (fun _=>⟨rfl,rfl⟩) v' w' hrun).mono ?_
   rintro en w1 ⟨rfl,rfl⟩
   exact hres
  ·refine(hEnd (some ⟨g,0,none⟩) l.length (cap+1) vb 0 (vcap+1) w hnc (by simp only[maxLen] at hcm; omega) (fun h=>by cases h) v' w' hrun).mono ?_
   rintro en w1 ⟨rfl,rfl⟩
   exact hres
 ·have hkl':k<l.length:=by omega
  have hsk:(k+1)*e.size=k*e.size+e.size:=by rw[z61,zH1]
  have hkk:k*e.size+e.size<=l.length*e.size:=by rw[<-hsk]; exact zD _ hkl'
  rcases q2.2 with⟨ad,_,hn⟩ | ⟨g,cap,cur,rfl,hcur,hnc,hcm,hcs,htake⟩
  ·omega
  have hxs:∀j u,xs[j]? = some u->w.cell? ⟨g,j,none⟩=some u:=fun j u hj=>by
   have:=q2.cells (g:=g) rfl j u hj;rwa[zo1,z11] at this
  have hdl:(xs.drop (k*e.size)).length=l.length*e.size-k*e.size:=by rw[zR,q2.1]
  have hn1:(l.length+1)*e.size=l.length*e.size+e.size:=by rw[z61,zH1]
  by_cases hroom:l.length+1<=cap+1
  ·-- in place
   have hspace:(l.length+1)*e.size<=cur.size:=by rw[hcs]; exact zD _ hroom
   have hne:vb≠g:=by
    intro e0;subst e0;exact absurd (hm.sep 0 1 _ _ vb hp0 hp1 hρ0 hρ1 rfl rfl) (by omega)
   have hc63:cap+1<=9223372036854775807:=by simp only[maxLen] at hcm; omega
   refine(hShift g l.length (cap+1) k vb 0 (vcap+1) xs ys w hkl' hroom hc63 hne q2.1 hyl hxs (fun j hj=>by
    simp[World.cell?,hcur,show j<cur.size by omega]) (fun j hj=>by simp[World.frozen?,hcur]) hvs h1c h1v ty ty vcur.size cur.size (by simp[World.shape?,v4]) (by simp[World.shape?,hcur]) (by omega) (by simp[World.frozen?,v4]) (by simp[World.frozen?,v4])).mono ?_
   rintro en w' ⟨rfl,rfl⟩
   have hd1:w.drew.heap[g]? = some (.cells cur ty (0,0)):=hcur;rw[qhu g _ _ _ cur ty (0,0) hd1 (by rw[hdl,hsk]; omega)]
   rw[qhu g _ _ _ _ ty (0,0) (zs2 _ g cur _ ty (0,0) hd1) (by simp; omega),setRow_setRow]
   refine fin _ _ (xs.take (k*e.size)++ys++xs.drop (k*e.size)) ⟨?_,.inr ⟨g,cap,_,rfl,zs2 _ g cur _ ty (0,0) hd1,hroom,hcm,?_,?_⟩⟩ ⟨rfl,rfl,rfl,by simp,fun q hq hn=>?_⟩ (.inl rfl) rfl
   ·rw[ze,ze,zm,hdl,hyl,q2.1]; omega
   ·simp only[zA1,ze,zm,zR,zn1,q2.1,hyl]; omega
   ·generalize hR:cur.toList.take ((k+1)*e.size)++xs.drop (k*e.size)++cur.toList.drop ((k+1)*e.size+(xs.drop (k*e.size)).length)=R;have hRl:R.length=cur.size:=by rw[<-hR]; simp only[ze,zm,zR,zn1,q2.1]; omega
    have ht1:R.take (k*e.size)=xs.take (k*e.size):=by
     rw[<-hR,zw,zl1 (by simp; omega),zO1,ze1 (by omega),<-htake,zO1,ze1 (by omega)]
    have ht2:(R.drop (k*e.size+ys.length)).take (l.length*e.size-k*e.size)=xs.drop (k*e.size):=by
     rw[<-hR,zw,zW1,z21 (by simp; omega),zF,hyl,<-hsk,zm,ze1 (by simp; omega),Nat.sub_self,z92,zl1 (by omega),zB (by omega)]
    rw[zT2,zB (by simp; omega)]
    have e5:(l.length+1)*e.size-(R.take (k*e.size)++ys).length=l.length*e.size-k*e.size:=by
     rw[ze,zm,hyl]; omega
    show(R.take (k*e.size)++ys)++(R.drop (k*e.size+ys.length)).take _=_;rw[e5,ht2,ht1]
   ·show(w.drew.setRow g _).heap[q]? = _;rw[zy2 _ _ _ _ (fun e0=>hn (by rw[e0]; rfl))]; rfl
  ·-- a new row
   refine(hGrow g l.length (cap+1) k vb 0 (vcap+1) xs ys w hkl' hnc (by omega) c4 q2.1 hyl hxs hvs h1c h1v).mono ?_
   rintro en w' ⟨ROW,G,r1,r2,r3,r4,rfl,rfl⟩
   obtain⟨G,rfl⟩:∃G',G=G'+1:=⟨G-1,by omega⟩
   have hsp:(l.length+1)*e.size<=ROW.size:=by rw[r1]; exact zD _ r2
   have hd1:(w.alloc (.cells ROW ty)).drew.heap[w.heap.size]? = some (.cells ROW ty (0,0)):=by
    show(w.heap.push (.cells ROW ty))[w.heap.size]? = _;rw[Array.getElem?_push_size]
   rw[qhu _ _ _ _ ROW ty (0,0) hd1 (by rw[hyl]; omega)]
   have hd2:=zs2 (w.alloc (.cells ROW ty)).drew w.heap.size ROW (ROW.toList.take (k*e.size)++ys++ROW.toList.drop (k*e.size+ys.length)).toArray ty (0,0) hd1;generalize hR:ROW.toList.take (k*e.size)++ys++ROW.toList.drop (k*e.size+ys.length)=R at hd2 ⊢;have hRl:R.length=ROW.size:=by rw[<-hR]; simp; omega
   have ht0:R.take (k*e.size+ys.length)=xs.take (k*e.size)++ys:=by rw[<-hR,qyi (by simp; omega),r4]
   have hd3:((w.alloc (.cells ROW ty)).drew.setRow w.heap.size R.toArray).drew.heap[w.heap.size]? = some (.cells R.toArray ty (0,0)):=hd2;rw[qhu _ _ _ _ R.toArray ty (0,0) hd3 (by rw[hdl]; simp; omega)]
   refine fin _ _ (xs.take (k*e.size)++ys++xs.drop (k*e.size)) ⟨?_,.inr ⟨w.heap.size,G,_,rfl,zs2 _ _ _ _ ty (0,0) hd3,r2,r3,?_,?_⟩⟩ ⟨rfl,rfl,rfl,?_,fun q hq hn=>?_⟩ (.inr fun q hq=>by have hq':w.heap.size=q:=zD1 hq; omega) rfl
   ·rw[ze,ze,zm,hdl,hyl,q2.1]; omega
   ·simp only[zA1,ze,zm,zR,q2.1]; omega
   ·have:=qyi (R:=R) (vs:=xs.drop (k*e.size)) (o:=(k+1)*e.size) (by omega)
    rw[hdl] at this;rw[hn1];show(R.take ((k+1)*e.size)++xs.drop (k*e.size)++R.drop ((k+1)*e.size+(xs.drop (k*e.size)).length)).take _=_;rw[hdl,show l.length*e.size+e.size=(k+1)*e.size+(l.length*e.size-k*e.size) by omega,this,hsk,show k*e.size+e.size=k*e.size+ys.length by rw[hyl],ht0]
   ·show w.heap.size<=(World.setRow _ _ _).heap.size;rw[setRow_size];show w.heap.size<=(World.setRow _ _ _).heap.size;rw[setRow_size];show w.heap.size<=(w.heap.push _).size;simp
   ·have hqn:q≠w.heap.size:=by omega
    show(World.setRow _ _ _).heap[q]? = _;rw[zy2 _ _ _ _ hqn];show(World.setRow _ _ _).heap[q]? = _;rw[zy2 _ _ _ _ hqn];exact(qd9 w _).blk q hq id
end Go.Sq
namespace Go.Sq
open Go Go.RowKit Go.MapKept
section
variable {P:Program} {ops:Array Oper} {Q:Exit->Act->World->Prop}
/-! ### Operations in order -/
/-! ### What is known of the map -/
def NewF(F:Nat->Prop)(w0 w:World)(m:Nat)(b:Nat):Prop:=F b\/(w0.heap.size<=b/\b<w.heap.size/\b≠m)
structure CmdW(P:Program)(F:Nat->Prop)(w0:World)(m B:Nat)(O:Obj)(ps:List Ty)(r:Ty)(G:HL (.str::ps)->Option r.den)(L:List (List UInt8×Value))(w:World):Prop where
 fr:Fr w0 (fun _=>False) w
 h0:w0.heap.size<=m
 h1:m<w.heap.size
 hB:w0.heap.size<=B/\B≠m
 bx:w.heap[B]? = some O
 mp:∃es clock,w.heap[m]? = some (.map es clock)/\Stamped es clock/\(es.toList.map fun e=>(e.key,e.val)).Perm (L.map fun q=>((.string ⟨⟨q.1⟩⟩:Value),q.2))
 fn:∀q∈L,FnVal P (NewF F w0 w m) w ps r (fun x=>G (q.1,x)) q.2
variable {F:Nat->Prop} {w0 w:World} {m B:Nat} {O:Obj} {ps:List Ty} {r:Ty} {G:HL (.str::ps)->Option r.den} {L:List (List UInt8×Value)}
theorem CmdW.alloc(hF:∀b,F b->b<w0.heap.size)(h:CmdW P F w0 m B O ps r G L w)(o:Obj):CmdW P F w0 m B O ps r G L (w.alloc o):=by
 have hs:(w.alloc o).heap.size=w.heap.size+1:=by simp
 obtain⟨es,clock,m1,m2,m3⟩:=h.mp;refine⟨h.fr.trans (qd9 w o) (fun _ hh _=>hh),h.h0,by have:=h.h1; omega,h.hB,(zJ1 w o B (z01.1 h.bx).1).trans h.bx,⟨es,clock,(zJ1 w o m h.h1).trans m1,m2,m3⟩,fun q hq=>(h.fn q hq).mono (fun b hb=>hb.imp (fun h=>h) fun hb=>⟨hb.1,by omega,hb.2.2⟩) fun b hb=>zJ1 w o b ?_⟩
 rcases hb with hb | hb
 ·have:=hF b hb; have:=h.fr.size; omega
 ·exact hb.2.1
theorem qsf{w:World}{b m:Nat}(hne:b≠m)(o:Obj):(w.heap.setIfInBounds m o)[b]? = w.heap[b]?:=by
 rw[z12,if_neg (fun e=>hne e.symm)]
theorem CmdW.ins(hF:∀b,F b->b<w0.heap.size)(h:CmdW P F w0 m B O ps r G L w){Γ:List TI}(hΓ:Tys P Γ){kj:TI}{et tm:TypeId}(hj:kj.ok P)(hj2:keyOk Γ kj=true)(hj3:kj.T=.str)(hm:P.underlying tm=some (.map kj.t et))
  {k:List UInt8} {v:Value} (hk:∀q∈L,q.1≠k) (hv:FnVal P (NewF F w0 w m) w ps r (fun x=>G (k,x)) v):∃w',(Instr.mapUpdate tm (.map (some m)) (.string ⟨⟨k⟩⟩) v).run P w=.ok () w'/\CmdW P F w0 m B O ps r G ((k,v)::L) w':=by
 obtain⟨es,clock,m1,m2,m3⟩:=h.mp;obtain⟨kt,kd,ks,kb,kz,kτ,ke⟩:=kj;simp only at hj3; subst hj3;have hkey:∀ {y:List UInt8},RdV (fun _=>False) w .str y (.string ⟨⟨y⟩⟩):=⟨_,rfl,rfl⟩
 have hks:∀e∈es.toList,∃q∈L,e.key=.string ⟨⟨q.1⟩⟩:=by
  intro e he;obtain⟨q,hq,h5⟩:=zW.1 (m3.mem_iff.1 (zW.2 ⟨e,he,rfl⟩));injection h5 with h5 _
  exact⟨q,hq,h5.symm⟩
 have huk:=qvQ hΓ hj hj2 (hkey (y:=k));rcases qlQ hΓ hj hj2 (hkey (y:=k)) es.toList (fun e he=>by obtain⟨q,_,hq⟩:=hks e he; exact⟨_,_,rfl,hq⟩) with⟨f1,f2⟩ | ⟨j2,e,f1,f2,f3⟩
 ·have hrun:=(qkA (z:=v) hm m1 huk).1 f1;refine⟨_,hrun,?_⟩
  have hsz:∀o:Obj,(w.heap.setIfInBounds m o).size=w.heap.size:=fun o=>Array.size_setIfInBounds ..
  have hfm:∀ {g:HL ps->Option r.den} {v':Value},FnVal P (NewF F w0 w m) w ps r g v'->FnVal P (NewF F w0 { w with heap:=w.heap.setIfInBounds m (.map (es.push { key:=.string ⟨⟨k⟩⟩,val:=v,born:=clock }) (clock+1)) } m) { w with heap:=w.heap.setIfInBounds m (.map (es.push { key:=.string ⟨⟨k⟩⟩,val:=v,born:=clock }) (clock+1)) } ps r g v':=by
   intro g v' hh;refine hh.mono (fun b hb=>hb.imp (fun h=>h) fun hb=>⟨hb.1,by rw[hsz]; exact hb.2.1,hb.2.2⟩) fun b hb=>qsf ?_ _
   rcases hb with hb | hb
   ·have:=hF b hb; have:=h.h0; omega
   ·exact hb.2.2
  refine⟨⟨h.fr.os,h.fr.tape,h.fr.output,by rw[hsz]; exact h.fr.size,fun g hg hn=>(qsf (by have:=h.h0; omega) _).trans (h.fr.blk g hg hn)⟩,h.h0,by rw[hsz]; exact h.h1,h.hB,(qsf h.hB.2 _).trans h.bx,⟨_,_,?_,stamped_push (val:=v) m2 f2,?_⟩,fun q hq=>?_⟩
  ·show(w.heap.setIfInBounds m _)[m]? = _;rw[z12,if_pos rfl,if_pos h.h1]
  ·rw[Array.toList_push,zQ1];exact(zX2 _ _).trans (m3.cons _)
  ·rcases zy.1 hq with rfl | hq
   ·exact hfm hv
   ·exact hfm (h.fn q hq)
 ·exfalso;obtain⟨q,hq,h5⟩:=hks e (zK f2);rw[f3] at h5;injection h5 with h5; injection h5 with h5; injection h5 with h5
  exact hk q hq h5.symm
def CloV(P:Program)(F:Nat->Prop)(w0:World)(B:Nat)(O:Obj)(ps:List Ty)(r:Ty)(G:HL (.str::ps)->Option r.den)(fc tk tf:Nat)(key:List UInt8)(k:Int)(fv:Value):Prop:=
 ∀(F':Nat->Prop) (W:World) (b1 b2:Nat),(∀b,F b->F' b)->(∀b,F b->W.heap[b]? = w0.heap[b]?)->F' B->W.heap[B]? = some O->F' b1->F' b2->W.heap[b1]? = some (.cells #[.int .i64 k] tk)->W.heap[b2]? = some (.cells #[fv] tf)->
  FnVal P F' W ps r (fun x=>G (key,x)) (.func (.func fc) #[] #[.pointer (some ⟨b1,0,none⟩),.pointer (some ⟨b2,0,none⟩)])
theorem CmdW.quad(hF:∀b,F b->b<w0.heap.size)(h:CmdW P F w0 m B O ps r G L w){Γ:List TI}(hΓ:Tys P Γ){kj:TI}{et tm:TypeId}(hj:kj.ok P)(hj2:keyOk Γ kj=true)(hj3:kj.T=.str)(hm:P.underlying tm=some (.map kj.t et))
  {fc tk tf:Nat} {key:List UInt8} {k:Int} {fv:Value} (hk:∀q∈L,q.1≠key) (hv:CloV P F w0 B O ps r G fc tk tf key k fv):
  ∃w',(Instr.mapUpdate tm (.map (some m)) (.string ⟨⟨key⟩⟩) (.func (.func fc) #[] #[.pointer (some ⟨w.heap.size,0,none⟩),.pointer (some ⟨w.heap.size+1,0,none⟩)])).run P ((w.alloc (.cells #[.int .i64 k] tk)).alloc (.cells #[fv] tf))=.ok () w'∧
   CmdW P F w0 m B O ps r G ((key,.func (.func fc) #[] #[.pointer (some ⟨w.heap.size,0,none⟩),.pointer (some ⟨w.heap.size+1,0,none⟩)])::L) w':=by
 have hC:=(h.alloc hF (.cells #[.int .i64 k] tk)).alloc hF (.cells #[fv] tf);have hs1:(w.alloc (.cells #[.int .i64 k] tk)).heap.size=w.heap.size+1:=by simp
 have hs2:((w.alloc (.cells #[.int .i64 k] tk)).alloc (.cells #[fv] tf)).heap.size=w.heap.size+2:=by simp
 have hm1:=h.h1; have h0:=h.fr.size; have hB:=h.hB; have hBs:=(z01.1 h.bx).1;refine hC.ins hF hΓ hj hj2 hj3 hm hk (hv _ _ _ _ (fun b hb=>.inl hb) (fun b hb=>hC.fr.blk b (hF b hb) id) (.inr ⟨hB.1,by omega,hB.2⟩) hC.bx (.inr ⟨h0,by omega,by omega⟩) (.inr ⟨by omega,by omega,by omega⟩) ?_ ?_)
 ·rw[zJ1 _ _ _ (by omega)]; exact(heap_alloc w _).1
 ·rw[<-hs1]; exact(heap_alloc _ _).1
theorem CmdW.den(h:CmdW P F w0 m B O ps r G L w){U:Env}:Den P (fun b=>F b\/(w0.heap.size<=b/\b<w.heap.size)) w U (.fmap ps r (L.map (·.1)) G) (.map (some m)):=by
 obtain⟨es,clock,m1,m2,m3⟩:=h.mp;refine .fmap (vs:=L.map (·.2)) (.inr ⟨h.h0,h.h1⟩) m1 m2 (by simp) ?_ fun i k v hk hv=>?_
 ·refine m3.trans ?_
  rw[zR2,<-List.zip_map',];exact List.Perm.refl _
 ·obtain⟨q,hq,rfl⟩:=zH .. ▸ hk |> zg1.1;rw[zH,hq] at hv;injection hv with hv
  subst hv;exact(h.fn q (zK hq)).mono (fun b hb=>hb.imp (fun h=>h) fun hb=>⟨hb.1,hb.2.1⟩) fun b hb=>rfl
/-! ### What closures over these variables compute -/
theorem qyj{w:World}{b:Nat}{cs:Array Value}{t:TypeId}(h:w.heap[b]? = some (.cells cs t))(j:Nat)(u:Value)(hj:cs.toList[j]? = some u):w.cell? ((⟨b,0,none⟩:Addr).add j)=some u:=by
 rw[zo1,z11];unfold World.cell?;rw[h];simpa using hj
theorem qDV{w:World}{b:Nat}{cs:List Value}{t:TypeId}{T:Ty}{x:T.den}{U:Env}(hF:F b)(h:w.heap[b]? = some (.cells cs.toArray t))(hx:RdC F w T x cs):Den P F w U (.sel T x 0) (.pointer (some ⟨b,0,none⟩)):=
 .sel (ad:=⟨b,0,none⟩) (o:=0) hF hx fun j u hj=>qyj h j u (by simpa using hj)
theorem qFw{w:World}{b:Nat}{cs:List Value}{t:TypeId}{f:Nat}{e:Ty}{x:e.den}(hF:F b)(h:w.heap[b]? = some (.cells cs.toArray t))(hx:RdC F w e x cs):RdC F w (.clo f e) x [.func (.func f) #[] #[.pointer (some ⟨b,0,none⟩)]]:=
 ⟨⟨b,0,none⟩,cs,rfl,hF,hx,fun j u hj=>qyj h j u (by simpa using hj)⟩
theorem qql(hgl:qho F w0){e:Fun}(c:FunOk P e){tk tf:TypeId}{key:List UInt8}{k:Int}{fv:Value}{T:Ty}{x:T.den}
  (hx:∀(F':Nat->Prop) (W:World),(∀b,F b->F' b)->(∀b,F b->W.heap[b]? = w0.heap[b]?)->F' B->W.heap[B]? = some O->RdC F' W T x [fv])
  (hG:cloFn e ps r [.sel (.int .i64) k 0,.sel T x 0]=fun y=>G (key,y)):CloV P F w0 B O ps r G e.f tk tf key k fv:=by
 intro F' W b1 b2 hF hw hB hO h1 h2 hc1 hc2;rw[<-hG];refine qur (caps:=[.pointer (some ⟨b1,0,none⟩),.pointer (some ⟨b2,0,none⟩)]) (U:=Env.none) (hgl.mono hF hw) c rfl rfl fun i s u hs hu=>?_
 match i with
 | 0=>simp at hs hu; subst hs hu; exact qDV (cs:=[.int .i64 k]) h1 hc1 rfl
 | 1=>simp at hs hu; subst hs hu; exact qDV (cs:=[fv]) h2 hc2 (hx F' W hF hw hB hO)
 | j+2=>simp at hs
theorem qDW(hgl:qho F w0){e:Fun}(c:FunOk P e){key:List UInt8}(hG:cloFn e ps r []=fun y=>G (key,y)):
  ∀(F':Nat->Prop) (W:World),(∀b,F b->F' b)->(∀b,F b->W.heap[b]? = w0.heap[b]?)->FnVal P F' W ps r (fun y=>G (key,y)) (.func (.func e.f) #[] #[]):=by
 intro F' W hF hw;rw[<-hG];exact qur (caps:=[]) (U:=Env.none) (hgl.mono hF hw) c rfl rfl fun i s u hs=>by simp at hs
theorem bind_some'{α:Type}(o:Option α):(o.bind fun y=>some y)=o:=by cases o <;> rfl
theorem FunOk.libF{P:Program}{e:Fun}(hok:FnOk P e.f)(hv:e.ji.vars=[])(ha:e.ji.arrs=[])(hv2:e.jo.vars=[])(ha2:e.jo.arrs=[])
  (h:∀x y,e.tw x=some y->∀(F:Nat->Prop) (w:World) (U:Env) (vs:List Value),vs.length=e.np->(∀g,F g->g<w.heap.size)->qho F w->(∀i u,vs[i]? = some u->Den P F w U ((e.ji.put0 x).r i) u)->
   Calls P e.f vs.toArray w fun en w'=>∃r F',en=.returned r/\Fr w (fun _=>False) w'/\(∀g,F g->F' g)/\(∀g,F' g->F g\/w.heap.size<=g)/\(∀g,F' g->g<w'.heap.size)/\Den P F' w' (fun _=>none) (resSV e.nr (e.jo.put0 y)) r):FunOk P e:=by
 refine⟨hok,fun x y hxy F w U vs hl hm hd=>?_⟩
 have hn:e.ji.names=[]:=by unfold J.names; rw[hv,ha]; rfl
 have hn2:e.jo.names=[]:=by unfold J.names; rw[hv2,ha2]; rfl
 refine(h x y hxy F w U vs hl hm.fb hm.glob hd).mono ?_
 rintro en w' ⟨r,F',rfl,hf,k1,k2,k3,hr⟩
 have hw:∀g,F g->w'.heap[g]? = w.heap[g]?:=fun g hg=>hf.blk g (hm.fb g hg) id
 refine⟨r,F',fun _=>none,rfl,⟨hf.os,hf.tape,hf.output,hf.size,fun g hg _=>hf.blk g hg id⟩,k1,fun g h=>(k2 g h).imp id .inr,⟨fun _ _=>rfl,?_,?_,?_,?_,k3,?_,hm.glob.mono k1 hw⟩,?_,?_,hr⟩
 ·intro b ty k hx; rw[qDT hv2] at hx; cases hx
 ·intro b A hx; rw[qDU ha2] at hx; cases hx
 ·intro b b' v v' g _ _ hx; cases hx
 ·intro b v g _ hx; cases hx
 ·intro b v hx; cases hx
 ·intro b v hb; rw[hn] at hb; cases hb
 ·intro b v g _ hx; cases hx
end
end Go.Sq
namespace Go.Sq
open Go Go.RowKit Go.Proofs Go.Shelf
def qtF(s sep:List UInt8):Option (List (List UInt8)):=match sep with
 | [_]=>bif Nat.ble s.length 1000000000 then some (Lib.split s sep) else none
 | _=>none
def qyk(f:FuncId):Fun:={ f:=f,np:=2,nr:=1,ji:={ regs:=[(0,.one (.data .str)),(1,.one (.data .str))],vars:=[],arrs:=[] },jo:={ regs:=[(0,.one (.cut .str))],vars:=[],arrs:=[] },tw:=fun x=>qtF x.1 x.2 }
section
variable {P:Program} {U:Ren}
theorem qzl(x:ByteArray)(b:UInt8):Lib.indexB x ⟨#[b]⟩=Lib.indexByte x.data.toList b:=Lib.index_one _ _
set_option maxHeartbeats 1000000 in
theorem qxj(L:Lays.n146 P U)(hi9:(P.info? (U.t 9)).map (fun i=>(i.zero,i.size,i.bytes))=some (some (.string ByteArray.empty),1,16))(s:ByteArray)(b:UInt8)(w:World)(hs:s.size<4294967281):
  Calls P (U.f 146) #[.string s,.string ⟨#[b]⟩] w fun e w'=>
   e=.returned (.slice (some ⟨w.heap.size,0,none⟩) (Lib.countB s ⟨#[b]⟩+1) (Lib.countB s ⟨#[b]⟩+1))/\w'=w.alloc (.cells ((Lib.splitB ⟨#[b]⟩ 0 (Lib.countB s ⟨#[b]⟩) s).map Value.string).toArray (U.t 9)):=by
 have h1:1<=(⟨#[b]⟩:ByteArray).size:=zP _;have hle:=Lib.countB_le ⟨#[b]⟩ h1 s.size s (zP _);have hlen:=Lib.splitB_all ⟨#[b]⟩ h1 0 _ s rfl;have c:=Any.strings_genSplit_core { L with } hi9 s ⟨#[b]⟩ 0 (-1) (Lib.countB s ⟨#[b]⟩+1) w hs h1 (zN _)
  (fun x c hx=>(Any.strings_Index_one { L with } x b _).mono fun e w' ⟨he,hw⟩=>⟨by rw[he,qzl],hw⟩)
  ((Any.strings_Count_one { L with } s b w).mono fun e w' ⟨he,hw⟩=>⟨by
   rw[he];show _=Ending.returned (Value.int .i64 ((Lib.count s.data.toList [b]:Nat):Int));rw[Lib.count_one];rfl,hw⟩) (by decide) (by decide) (by rw[if_pos (by decide)]; omega)
 rw[Nat.add_sub_cancel,hlen] at c;have e2:Lib.cellsOf (Lib.splitB ⟨#[b]⟩ 0 (Lib.countB s ⟨#[b]⟩) s) (Lib.countB s ⟨#[b]⟩+1)=((Lib.splitB ⟨#[b]⟩ 0 (Lib.countB s ⟨#[b]⟩) s).map Value.string).toArray:=by rw[<-hlen]; exact Lib.cellsOf_full _
 rw[e2] at c;have t3:=L.t3; have t9:=L.t9; have t31:=L.t31;have a3:=L.a3; have a9:=L.a9; have a31:=L.a31;have z3:=L.z3; have v3:=L.v3; have z9:=L.z9; have v9:=L.v9; have z31:=L.z31; have v31:=L.v31;have e221:∀args w,(callFunc (U.f 221) args).run P w=.ok (.enter (U.f 221) args) w:=enters_of L.f221 (by kernel_rfl) rfl
 go_enter L.f146,Body.n146_ntmps U
 go_wp2_with (go_at_fn (U.f 221); refine c.mono ?_; rintro e w' ⟨rfl,hw⟩; rw[hw])
 go_ret
 exact⟨rfl,rfl⟩
end
theorem qCx{P:Program}{F:Nat->Prop}{w:World}{U:Env}{q:List ByteArray}{t:TypeId}(hF:F w.heap.size)(hq:q.length<=1000000001):
  Den P F (w.alloc (.cells (q.map Value.string).toArray t)) U (.cut .str (q.map (·.data.toList))) (.slice (some ⟨w.heap.size,0,none⟩) q.length q.length):=by
 have hl:(q.map (·.data.toList)).length=q.length:=zQ _;rw[<-hl];refine .cut ⟨some ⟨w.heap.size,0,none⟩,(q.map (·.data.toList)).length,rfl,fun _=>hF,zP _,?_,fun i z hz=>?_⟩
 ·rw[hl]; unfold maxLen; omega
 ·refine⟨[.string ⟨⟨z⟩⟩],rfl,fun j v hj=>?_⟩
  cases j with
  | succ j=>simp at hj
  | zero=>
   simp only[zl2,zt1] at hj;subst hj;have ha:(⟨w.heap.size,0,none⟩:Addr).add (i*Ty.str.size+0)=⟨w.heap.size,i,none⟩:=by
    show(⟨w.heap.size,0,none⟩:Addr).add (i*1+0)=_;unfold Addr.add; simp; exact fun h=>h.symm
   have hz':(q.map (·.data.toList))[i]? = some z:=hz;rw[ha,World.cell?_alloc_new,List.getElem?_toArray,zH]
   rw[zH] at hz';cases hqi:q[i]? with
   | none=>rw[hqi] at hz'; cases hz'
   | some p=>
    rw[hqi] at hz';have hz:=zD1 (show some p.data.toList=some z from hz')
    show some (Value.string p)=_;rw[<-hz]
theorem qCy{P:Program}{f:FuncId}{t:TypeId}(hok:FnOk P f)
  (h1:∀(s:ByteArray) (b:UInt8) (w:World),s.size<4294967281->Calls P f #[.string s,.string ⟨#[b]⟩] w fun e w'=>
   e=.returned (.slice (some ⟨w.heap.size,0,none⟩) (Lib.countB s ⟨#[b]⟩+1) (Lib.countB s ⟨#[b]⟩+1))/\w'=w.alloc (.cells ((Lib.splitB ⟨#[b]⟩ 0 (Lib.countB s ⟨#[b]⟩) s).map Value.string).toArray t)):FunOk P (qyk f):=by
 refine FunOk.libF hok rfl rfl rfl rfl fun x y hxy F w U vs hl hb hg hd=>?_
 obtain⟨u,v,rfl⟩:=quv hl;obtain⟨s,sep⟩:=x;have hu:Den P F w U (.v .str s) u:=hd 0 u rfl;have hv:Den P F w U (.v .str sep) v:=hd 1 v rfl;have str:∀ {l:List UInt8} {z:Value},Den P F w U (.v .str l) z->z=.string ⟨⟨l⟩⟩:=fun h=>by
  cases h with
  | v h=>obtain⟨cs,h1,h2⟩:=h; have:cs=[.string ⟨⟨_⟩⟩]:=h1; subst this; exact h2
 rw[str hu,str hv];replace hxy:qtF s sep=some y:=hxy; clear hl;cases sep with
 | nil=>exact absurd (show(none:Option (List (List UInt8)))=some y from hxy) (by simp)
 | cons b r=>
 cases r with
 | cons _ _=>exact absurd (show(none:Option (List (List UInt8)))=some y from hxy) (by simp)
 | nil=>
  unfold qtF at hxy;cases hc:Nat.ble s.length 1000000000 with
  | false=>rw[hc] at hxy; cases hxy
  | true=>
   rw[hc] at hxy;have hxy:=zD1 (show some (Lib.split s [b])=some y from hxy)
   have hsz:=zJ hc;refine(h1 ⟨⟨s⟩⟩ b w (by show s.length<_; omega)).mono ?_
   rintro e w' ⟨rfl,rfl⟩
   have hd:=Lib.splitB_data ⟨#[b]⟩ 0 (Lib.countB ⟨⟨s⟩⟩ ⟨#[b]⟩) ⟨⟨s⟩⟩;have hn:=Lib.splitB_all ⟨#[b]⟩ (zP _) 0 _ ⟨⟨s⟩⟩ rfl;have hle:=Lib.countB_le ⟨#[b]⟩ (zP _) _ ⟨⟨s⟩⟩ (zP _);generalize hq:Lib.splitB ⟨#[b]⟩ 0 (Lib.countB ⟨⟨s⟩⟩ ⟨#[b]⟩) ⟨⟨s⟩⟩=q at*
   have hy:y=q.map (·.data.toList):=by rw[hd,<-hxy]; rfl
   refine⟨_,fun g=>F g\/g=w.heap.size,rfl,qd9 _ _,fun g h=>.inl h,fun g h=>h.imp id (fun e=>by omega),fun g h=>?_,?_⟩
   ·rcases h with h | rfl
    ·have:=hb g h; simp; omega
    ·simp
   ·subst hy;rw[<-hn];have hsz2:(⟨⟨s⟩⟩:ByteArray).size=s.length:=rfl;exact qCx (.inr rfl) (by rw[hn]; omega)
end Go.Sq
