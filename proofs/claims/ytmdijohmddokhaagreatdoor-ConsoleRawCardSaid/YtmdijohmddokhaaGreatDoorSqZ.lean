/- Lemmas. No condition. -/
import Derived.Test.YtmdijohmddokhaaGreatDoorSqQ
import Derived.Carry
import Derived.OpenShut
import Derived.ProofKit
import Derived.IntWalk
import Derived.Lib.Bytealg
import Derived.Laws.Externs
namespace Go.Sq
open Go Go.RowKit
def qv0:List Fun->FuncId->Option Fun
 | [],_=>none
 | e::r,f=>bif Nat.beq e.f f then some e else qv0 r f
def qx5(P:Program):List Fun->Prop
 | []=>True
 | e::r=>FunOk P e/\qx5 P r
theorem qr8{P:Program}:∀ {l:List Fun} {f:FuncId} {e:Fun},qx5 P l->qv0 l f=some e->FunOk P e/\e.f=f
 | [],_,_,_,h=>by cases h
 | x::l,f,e,⟨h0,h1⟩,h=>by
  have h':(bif Nat.beq x.f f then some x else qv0 l f)=some e:=h;cases hb:Nat.beq x.f f with
  | true=>rw[hb] at h'; injection h' with h'; subst h'; exact⟨h0,zd hb⟩
  | false=>rw[hb] at h'; exact qr8 h1 h'
/-! ### A function value is called -/
structure VC where
 σ:Type
 dflt:σ
 m:Option σ
 rd:List Key
 wr:σ->List Wr
def hlOf:(ps:List Ty)->List SV->Option (HL ps)
 | [],[]=>some ()
 | T::r,s::l=>match s.dat T with
  | some x=>match hlOf r l with
   | some y=>some (x,y)
   | none=>none
  | none=>none
 | _,_=>none
def svL:(ps:List Ty)->HL ps->List SV
 | [],_=>[]
 | T::r,x=>.v T x.1::svL r x.2
def qxb(st:St)(N d t:Nat)(xs:List Operand):Option VC:=
 match st.r t with
 | .fn ps r g=>match hlOf ps (xs.map st.ev) with
  | some x=>bif Nat.blt d N then some ⟨r.den,r.dflt,g x,.r t::qnI xs,fun y=>[.r d (.v r y)]⟩ else none
  | none=>none
 | _=>none
/-! ### A closure that only reads computes -/
def cloFn(e:Fun)(ps:List Ty)(r:Ty)(cells:List SV):HL ps->Option r.den:=fun x=>
 match qop e κ0 1 0 (svL ps x++cells) with
 | some q=>(e.tw q.x).bind fun y=>((κ0.app (q.wr y)).r 0).dat r
 | none=>none
def fnArg(fs:List Fun):Sh->SV->SV
 | .one (.fn ps r),.clo f cells=>match qv0 fs f with
  | some e=>bif cells.all qit then .fn ps r (cloFn e ps r cells) else .clo f cells
  | none=>.clo f cells
 | _,s=>s
def qnJ(fs:List Fun):List (Nat×Sh)->List SV->List SV
 | (_,h)::l,s::ss=>fnArg fs h s::qnJ fs l ss
 | _,ss=>ss
section
variable {P:Program} {w0:World} {M:Mod} {N:Nat} {F0:Nat->Prop} {ops:Array Oper}
variable {F:Nat->Prop} {U:Env} {st:St} {a:Act} {w:World} {rty:TypeId}
theorem qxc:∀ {ps:List Ty} {ss:List SV} {vs:List Value} {x:HL ps},hlOf ps ss=some x->ss.length=vs.length->(∀(i:Nat) (s:SV) (u:Value),ss[i]? = some s->vs[i]? = some u->Den P F w U s u)->RdL F w ps x vs
 | [],[],[],_,_,_,_=>rfl
 | [],[],_::_,_,_,hl,_=>by simp at hl
 | [],_::_,_,_,h,_,_=>by cases h
 | _::_,[],_,_,h,_,_=>by cases h
 | _::_,_::_,[],_,_,hl,_=>by simp at hl
 | T::ps,s::ss,v::vs,x,h,hl,hd=>by
  simp only[hlOf] at h;split at h
  ·rename_i x0 h0;split at h
   ·rename_i y hy;cases h
    exact⟨v,vs,rfl,qda h0 (hd 0 s v rfl rfl),qxc hy (by simpa using hl) (fun i s u hs hu=>hd (i+1) s u (by simpa using hs) (by simpa using hu))⟩
   ·cases h
  ·cases h
theorem qAy:∀ {ps:List Ty} {x:HL ps} {vs:List Value},RdL F w ps x vs->(svL ps x).length=vs.length/\∀(i:Nat) (s:SV) (u:Value),(svL ps x)[i]? = some s->vs[i]? = some u->Den P F w U s u
 | [],_,vs,h=>by
  have h':vs=[]:=h;subst h'; exact⟨rfl,fun i s u hs=>by simp[svL] at hs⟩
 | T::ps,x,vs,h=>by
  obtain⟨v,vs',rfl,h1,h2⟩:=h;obtain⟨a1,a2⟩:=qAy h2;refine⟨by simp[svL,a1],fun i s u hs hu=>?_⟩
  cases i with
  | zero=>simp[svL] at hs hu; subst hs hu; exact .v h1
  | succ i=>exact a2 i s u (by simpa[svL] using hs) (by simpa using hu)
theorem qht(a:Act)(dst:Option Tmp)(t:Tmp)(xs:Array Operand)(ats:Array TypeId)(ty:TypeId)(pos:String)(after:Array Edge)(guard:Option (Nat×Bool)){f:FuncId}{caps:Array Value}(hv:a.eval (.tmp t)=.func (.func f) #[] caps):
  execOp a.eval { dst,op:=.call { callee:=.value (.tmp t),args:=xs,argTypes:=ats },type:=ty,pos,after,guard }=callFunc f (#[]++xs.map a.eval++caps):=by
 show(do let d<-Deferred.ofValue (a.eval (.tmp t)) (xs.map a.eval); invoke d.target d.args)=_
 rw[hv]; rfl
theorem qzf{d t:Nat}{xs:List Operand}{ats:Array TypeId}{r:VC}{y:r.σ}(h:qxb st N d t xs=some r)(hy:r.m=some y)(pos:String)(af:Array Edge):
  RT P w0 M N F0 ops ⟨some d,.call { callee:=.value (.tmp t),args:=xs.toArray,argTypes:=ats },rty,pos,af,none⟩ st r.rd (r.wr y):=by
 unfold qxb at h;split at h
 ·rename_i ps Uty g hfn;split at h
  ·rename_i x hx;cases hb:Nat.blt d N with
   | false=>rw[hb] at h; cases h
   | true=>
    rw[hb] at h; cases h
    rw[zS] at hb;intro st' hag a w ⟨F,U,hr,hF⟩;rw[if_pos (qcD rfl)];have h0:=hr.regs t;rw[<-(hag (.r t) (by simp):st.r t=st'.r t),hfn] at h0
    have hden:=qgM (st:=st) (xs:=xs) hr (fun κ hκ=>hag κ (zV _ hκ))
    generalize hu:a.tmps.getD t undef=u at h0;cases h0 with
    | fn hv=>
     rcases hv with⟨_,hv⟩ | ⟨f,caps,rfl,hfo,hrun⟩
     ·rw[hv] at hy; cases hy
     unfold Oper.wp;rw[qht a (some d) t xs.toArray ats rty pos af none (show a.eval (.tmp t)=_ from hu)]
     have ee:(#[]++xs.toArray.map a.eval++caps:Array Value)=(xs.map a.eval).toArray++caps:=by simp
     rw[ee,qgL hfo];show Calls P f _ w _;refine(hrun x y hy F w (xs.map a.eval) (fun _ h=>h) (fun _ _=>rfl) hr.mem.fb (qxc hx (by simp) hden)).mono ?_
     rintro en w' ⟨rv,F',rfl,q1,q2,q3,q4,q5⟩
     show Rel P w0 M N F0 (st'.put (.r d (.v Uty y))) (a.put (some d) rv) w';refine⟨F',U,(hr.grow q1 q2 q3 q4).setR hb (.v q5),fun g hg=>q2 g (hF.1 g hg),fun g hg=>?_⟩
     rcases q3 g hg with h1 | h1
     ·exact hF.2 g h1
     ·exact .inr (.inr (zA hr.fr.size h1))
  ·cases h
 ·cases h
theorem qur(hgl:qho F w){e:Fun}(c:FunOk P e){ps:List Ty}{r:Ty}{cells:List SV}{caps:List Value}(hcl:cells.all qit=true)(hl:cells.length=caps.length)
  (hd:∀(i:Nat) (s:SV) (u:Value),cells[i]? = some s->caps[i]? = some u->Den P F w U s u):FnVal P F w ps r (cloFn e ps r cells) (.func (.func e.f) #[] caps.toArray):=by
 refine .inr ⟨e.f,caps.toArray,rfl,c.ok,fun x y hxy F' w' vs hF hw hb hx=>?_⟩
 unfold cloFn at hxy;split at hxy
 ·rename_i q hq;obtain⟨z,hz,hy⟩:=zN1.1 hxy;obtain⟨a1,a2⟩:=qAy (P:=P) (U:=Env.none) hx;have ee:vs.toArray++caps.toArray=(vs++caps).toArray:=by simp
  rw[ee];refine(qrr c (F0:=F') (vs:=vs++caps) hq hz (fun κ _=>agree.refl _ κ) (qr6 hb (hgl.mono hF hw)) ⟨fun _ h=>h,fun _ h=>.inl h⟩ (by simp[a1,hl]) (fun i s u hs hu=>?_)).mono ?_
  ·by_cases hi:i<(svL ps x).length
   ·rw[zY hi] at hs;rw[zY (by omega)] at hu
    exact a2 i s u hs hu
   ·rw[zX (by omega)] at hs
    rw[zX (by omega),<-a1] at hu
    have h1:=hd _ s u hs hu;have hc:qit s=true:=zq.1 hcl s (zK hs);exact(h1.mono hF hw U (fun _ _ h=>h)).closed hc
  ·rintro en w'' ⟨rv,rfl,F'',U'',hr,k1,k2⟩
   refine⟨rv,F'',rfl,⟨hr.fr.os,hr.fr.tape,hr.fr.output,hr.fr.size,fun g hg _=>hr.fr.blk g hg (fun h=>h)⟩,k1,fun g hg=>?_,hr.mem.fb,?_⟩
   ·rcases k2 g hg with h1 | h1 | h1
    ·exact .inl h1
    ·exact h1.elim
    ·exact .inr h1
   ·have:=hr.regs 0;exact qda hy this
 ·cases hxy
theorem qtC(hgl:qho F w){fs:List Fun}(hfs:qx5 P fs):∀ {l:List (Nat×Sh)} {ss:List SV} {vs:List Value},ss.length=vs.length->(∀(i:Nat) (s:SV) (u:Value),ss[i]? = some s->vs[i]? = some u->Den P F w U s u)->
  (qnJ fs l ss).length=vs.length/\∀(i:Nat) (s:SV) (u:Value),(qnJ fs l ss)[i]? = some s->vs[i]? = some u->Den P F w U s u
 | [],ss,vs,hl,hd=>⟨by simpa[qnJ] using hl,fun i s u hs hu=>hd i s u (by simpa[qnJ] using hs) hu⟩
 | _::_,[],vs,hl,hd=>⟨by simpa[qnJ] using hl,fun i s u hs hu=>by simp[qnJ] at hs⟩
 | (t,sh)::l,s::ss,[],hl,hd=>by simp at hl
 | (t,sh)::l,s::ss,v::vs,hl,hd=>by
  obtain⟨h1,h2⟩:=qtC hgl hfs (l:=l) (ss:=ss) (vs:=vs) (by simpa using hl) (fun i s u hs hu=>hd (i+1) s u (by simpa using hs) (by simpa using hu))
  have hd0:=hd 0 s v rfl rfl;have e1:qnJ fs ((t,sh)::l) (s::ss)=fnArg fs sh s::qnJ fs l ss:=rfl;have e2:Den P F w U (fnArg fs sh s) v:=by
   unfold fnArg;split
   ·split
    ·rename_i f cells _ e he;obtain⟨c,rfl⟩:=qr8 hfs he;cases hb:cells.all qit with
     | false=>exact hd0
     | true=>
      cases hd0 with
      | clo a1 a2=>exact .fn (qur hgl c hb a1 a2)
    ·exact hd0
   ·exact hd0
  rw[e1];refine⟨by simp[h1],fun i s u hs hu=>?_⟩
  cases i with
  | zero=>simp at hs hu; subst hs hu; exact e2
  | succ i=>exact h2 i s u (by simpa using hs) (by simpa using hu)
end
structure OR where
 g:Bool
 σ:Type
 dflt:σ
 m:Option σ
 rd:List Key
 wr:σ->List Wr
def gd{A:Type}(c:Bool)(x:Option A):Option A:=bif c then x else none
theorem qAz{A:Type}{c:Bool}{x:Option A}{a:A}(h:gd c x=some a):c=true/\x=some a:=by
 cases c with
 | true=>exact⟨rfl,h⟩
 | false=>cases h
def Ct.dflt:(c:Ct)->c.den
 | .d T=>T.dflt
 | .f _ _=>fun _=>none
def CT.dflt:(l:List Ct)->CT l
 | []=>()
 | [c]=>c.dflt
 | c::d::r=>(c.dflt,CT.dflt (d::r))
structure Ext where
 f:FuncId
 ps:List Ty
 r:Ty
 g:HL ps->Option r.den
def ExtOk(P:Program)(e:Ext):Prop:=∀x y,e.g x=some y->∀(F:Nat->Prop) (w:World) (vs:List Value),RdL F w e.ps x vs->∃v,(callFunc e.f vs.toArray).run P w=.ok (.value v) w/\RdV F w e.r y v
def qus:List Ext->FuncId->Option Ext
 | [],_=>none
 | e::r,f=>bif Nat.beq e.f f then some e else qus r f
def qAA(P:Program):List Ext->Prop
 | []=>True
 | e::r=>ExtOk P e/\qAA P r
theorem qtD{P:Program}:∀ {l:List Ext} {f:FuncId} {e:Ext},qAA P l->qus l f=some e->ExtOk P e/\e.f=f
 | [],_,_,_,h=>by cases h
 | x::l,f,e,⟨h0,h1⟩,h=>by
  have h':(bif Nat.beq x.f f then some x else qus l f)=some e:=h;cases hb:Nat.beq x.f f with
  | true=>rw[hb] at h'; injection h' with h'; subst h'; exact⟨h0,zd hb⟩
  | false=>rw[hb] at h'; exact qtD h1 h'
structure Cx where
 Γ:List TI
 ow:List Nat
 fs:List Fun
 N:Nat
 xs:List Ext:=[]
def qkD(C:Cx)(st:St)(d:Nat)(f:FuncId)(ks:List Key)(ss:List SV):Option OR:=
 match qv0 C.fs f with
 | some e=>match qr5 e st C.N d ks (qnJ C.fs e.ji.regs ss) with
  | some r=>some ⟨true,CT e.jo.ct,CT.dflt _,e.tw r.x,r.rd,r.wr⟩
  | none=>none
 | none=>none
def evExt(C:Cx)(st:St)(d:Nat)(e:Ext)(xs:List Operand):Option OR:=
 match hlOf e.ps (xs.map st.ev) with
 | some x=>bif Nat.blt d C.N then some ⟨true,e.r.den,e.r.dflt,e.g x,qnI xs,fun y=>[.r d (.v e.r y)]⟩ else none
 | none=>none
def qAB(C:Cx)(st:St)(d t:Nat)(xs:List Operand):Option OR:=
 match st.r t with
 | .clo f cells=>qkD C st d f (.r t::qnI xs) (xs.map st.ev++cells)
 | .v (.fnc f) _=>qkD C st d f (.r t::qnI xs) (xs.map st.ev)
 | .v (.fnl fs) x=>match fnAt fs x with
  | some f=>qkD C st d f (.r t::qnI xs) (xs.map st.ev)
  | none=>none
 | .v (.clo f e) x=>qkD C st d f (.r t::qnI xs) (xs.map st.ev++[.sel e x 0])
 | _=>match qxb st C.N d t xs with
  | some r=>some ⟨true,r.σ,r.dflt,r.m,r.rd,r.wr⟩
  | none=>none
def CxOk(P:Program)(C:Cx):Prop:=qx5 P C.fs/\qAA P C.xs
def qxd(C:Cx)(st:St)(dst:Option Nat):Op->Option OR
 | .call ⟨.value (.func f),⟨xs⟩,_⟩=>match dst with
  | some d=>match qus C.xs f with
   | some e=>evExt C st d e xs
   | none=>qkD C st d f (qnI xs) (xs.map st.ev)
  | none=>none
 | .call ⟨.value (.tmp t),⟨xs⟩,_⟩=>match dst with
  | some d=>qAB C st d t xs
  | none=>none
 | _=>none
def qDK:Option Nat->Nat
 | some d=>d+1000000
 | none=>999999
def qAC(Γ:List TI)(st:St)(op:Op):Option VR:=
 match qAl Γ st op with
 | some r=>some r
 | none=>qw9 Γ st op
def qx6(C:Cx)(st:St)(dst:Option Nat)(op:Op):Option OR:=
 match evVal C.Γ st op with
 | some r=>match dst with
  | some d=>bif Nat.blt d C.N then some ⟨r.g,Unit,(),some (),r.rd,fun _=>[.r d r.s]⟩ else none
  | none=>some ⟨r.g,Unit,(),some (),r.rd,fun _=>[]⟩
 | none=>match evMem C.Γ C.ow st C.N dst op with
  | some r=>bif memN C.ow (qDK dst) then(match frzW r.wr with
    | some wr=>some ⟨r.g,Unit,(),some (),r.rd,fun _=>wr⟩
    | none=>none) else some ⟨r.g,Unit,(),some (),r.rd,fun _=>r.wr⟩
  | none=>match qAC C.Γ st op with
   | some r=>match dst with
    | some d=>bif Nat.blt d C.N then some ⟨r.g,Unit,(),some (),r.rd,fun _=>[.r d r.s]⟩ else none
    | none=>none
   | none=>match qxa C.Γ st C.N dst op with
    | some r=>some ⟨r.g,Unit,(),some (),r.rd,fun _=>r.wr⟩
    | none=>qxd C st dst op
/-! ### What was frozen is read under its elder names -/
structure CvE where
 t:Nat
 z:Nat
 b:Nat
 T:Ty
 x:T.den
def findZ(st:St)(b:Nat):Nat->Option (Nat×((T:Ty)×T.den))
 | 0=>none
 | n+1=>match st.r n with
  | .fzd b' T x=>bif Nat.beq b' b then some (n,⟨T,x⟩) else findZ st b n
  | _=>findZ st b n
theorem qqj{st:St}{b:Nat}:∀ {n z:Nat} {T:Ty} {x:T.den},findZ st b n=some (z,⟨T,x⟩)->st.r z=.fzd b T x
 | 0,z,T,x,h=>by cases h
 | n+1,z,T,x,h=>by
  unfold findZ at h;split at h
  ·rename_i b' T' x' hr;cases hb:Nat.beq b' b with
   | true=>
    rw[hb] at h;have:=zd hb;subst this;cases h;exact hr
   | false=>rw[hb] at h; exact qqj h
  ·exact qqj h
def convL(st:St)(N:Nat):Nat->List CvE
 | 0=>[]
 | n+1=>match st.r n with
  | .own b=>match findZ st b N with
   | some (z,⟨T,x⟩)=>⟨n,z,b,T,x⟩::convL st N n
   | none=>convL st N n
  | _=>convL st N n
def convW(l:List CvE):List Wr:=l.map fun p=>.r p.t (.v p.T p.x)
def convK(l:List CvE):List Key:=l.flatMap fun p=>[.r p.t,.r p.z]
def cvKey:Option Nat->Nat
 | some d=>d+2000000
 | none=>1999999
def evOne(C:Cx)(st:St)(dst:Option Nat)(op:Op):Option OR:=
 bif memN C.ow (cvKey dst) then(match qx6 C (st.app (convW (convL st C.N C.N))) dst op with
  | some q=>some ⟨q.g,q.σ,q.dflt,q.m,convK (convL st C.N C.N)++q.rd,fun x=>convW (convL st C.N C.N)++q.wr x⟩
  | none=>none)
 else qx6 C st dst op
/-! ### Guards: the two ways part -/
def qr9(want:Bool)(b:Bool):Bool:=bif want then b else !b
def runOp{A:Type}(C:Cx)(o:Oper)(ks:List Key)(feet:List (List Key×List Key))(su sr:St)(k:List (List Key×List Key)->St->St->Option A):Option A:=
 match evOne C sr o.dst o.op with
 | none=>none
 | some q=>gd q.g (q.m.bind fun x=>k (feet++[(ks++q.rd,wkeys (q.wr x))]) (su.app (q.wr x)) (sr.app (q.wr x)))
def qx7{A:Type}(gs d:Nat)(feet:List (List Key×List Key))(su sr:St)(k:List (List Key×List Key)->St->St->Option A):Option A:=
 k (feet++[([.r gs],[.r d])]) (su.put (.r d (.raw undef))) (sr.put (.r d (.raw undef)))
def isU:SV->Bool
 | .raw (.tuple ⟨[]⟩)=>true
 | _=>false
def ixKey:Option Nat->Nat
 | some d=>d+4000000
 | none=>3999999
def ixOp:Op->Option (TypeId×Operand×Nat)
 | .indexAddr t x (.tmp s)=>some (t,x,s)
 | _=>none
def qDL(Γ:List TI)(t:TypeId):Nat:=match look Γ t with
 | some i=>match i.desc with
  | .array n _=>n
  | _=>0
 | none=>0
def fnOp:Op->Option Nat
 | .call ⟨.value (.tmp t),_,_⟩=>some t
 | _=>none
def qAD{A:Type}(C:Cx)(o:Oper)(t:Nat)(fs:List Nat)(x:Nat)(feet:List (List Key×List Key))(su sr:St)(k:List (List Key×List Key)->St->St->Option A):List Nat->Option A
 | []=>none
 | j::l=>bif decide (x=j+1) then runOp C o [] feet (su.put (.r t (.v (.fnl fs) (j+1:Nat)))) (sr.put (.r t (.v (.fnl fs) (j+1:Nat)))) k
  else qAD C o t fs x feet su sr k l
def SV.fnl?:SV->Option (List Nat×Nat)
 | .v (.fnl fs) x=>some (fs,x)
 | _=>none
theorem qFt{s:SV}{fs:List Nat}{x:Nat}(h:s.fnl? = some (fs,x)):s=.v (.fnl fs) x:=by
 unfold SV.fnl? at h;split at h
 ·injection h with h; injection h with e1 e2; subst e1 e2; rfl
 ·cases h
def qAE{A:Type}(C:Cx)(d:Nat)(t:TypeId)(x:Operand)(s:Nat)(K:IntKind)(m:Int)(feet:List (List Key×List Key))(su sr:St)(k:List (List Key×List Key)->St->St->Option A):List Nat->Option A
 | []=>none
 | j::l=>bif decide (m=(j:Int)) then(match qrn C.Γ sr t x (.const (.int K (j:Int))) with
   | some r=>gd r.g (k (feet++[([.r s]++r.rd,wkeys [.r d r.s])]) (su.put (.r d r.s)) (sr.put (.r d r.s)))
   | none=>none) else qAE C d t x s K m feet su sr k l
def evOps{A:Type}(C:Cx)(draw:Bool)(all:List Oper):List Oper->List (List Key×List Key)->St->St->(St->Option A)->Option A
 | [],feet,su,_,k=>bif !draw || qoL all feet then k su else none
 | o::rest,feet,su,sr,k=>match o.guard with
  | none=>bif memN C.ow (ixKey o.dst) then(match o.dst,ixOp o.op with
    | some d,some (t,x,s)=>match(sr.r s).int? with
     | some (K,m)=>bif Nat.blt d C.N then qAE C d t x s K m feet su sr (fun feet su sr=>evOps C draw all rest feet su sr k) (List.range (qDL C.Γ t)) else none
     | none=>none
    | some d,none=>match fnOp o.op with
     | some t=>match(sr.r t).fnl? with
      | some (fs,x)=>bif Nat.blt d C.N then qAD C o t fs x feet su sr (fun feet su sr=>evOps C draw all rest feet su sr k) (List.range fs.length) else none
      | none=>none
     | none=>none
    | _,_=>none) else runOp C o [] feet su sr fun feet su sr=>evOps C draw all rest feet su sr k
  | some (j,want)=>match(all[j]?).bind (·.dst),o.dst with
   | some gs,some d=>match(sr.r gs).bool? with
    | some b=>bif Nat.blt gs C.N&&Nat.blt d C.N then
      bif b then(bif qr9 want true then runOp C o [.r gs] feet (su.put (.r gs (.v .bool true))) (sr.put (.r gs (.v .bool true))) fun feet su sr=>evOps C draw all rest feet su sr k
       else qx7 gs d feet (su.put (.r gs (.v .bool true))) (sr.put (.r gs (.v .bool true))) fun feet su sr=>evOps C draw all rest feet su sr k)
      else(bif qr9 want false then runOp C o [.r gs] feet (su.put (.r gs (.v .bool false))) (sr.put (.r gs (.v .bool false))) fun feet su sr=>evOps C draw all rest feet su sr k
       else qx7 gs d feet (su.put (.r gs (.v .bool false))) (sr.put (.r gs (.v .bool false))) fun feet su sr=>evOps C draw all rest feet su sr k)
     else none
    | none=>bif isU (sr.r gs)&&(Nat.blt gs C.N&&Nat.blt d C.N) then qx7 gs d feet su sr fun feet su sr=>evOps C draw all rest feet su sr k else none
   | _,_=>none
section
variable {P:Program} {w0:World} {M:Mod} {F0:Nat->Prop} {ops:Array Oper} {C:Cx}
variable {F:Nat->Prop} {U:Env} {st:St} {a:Act} {w:World} {rty:TypeId}
theorem qzg(hfs:CxOk P C){dst:Option Nat}{op:Op}{q:OR}(h:qxd C st dst op=some q){x:q.σ}(hm:q.m=some x)(pos:String)(af:Array Edge):
  RT P w0 M C.N F0 ops ⟨dst,op,rty,pos,af,none⟩ st q.rd (q.wr x):=by
 have key:∀ {st':St} {a:Act} {w:World} {F:Nat->Prop} {U:Env} {d:Nat} {f:FuncId} {ks:List Key} {ss:List SV} {vs:List Value} {q:OR} {x:q.σ},qkD C st d f ks ss=some q->q.m=some x->(∀κ∈q.rd,agree st st' κ)->
   Rel' P w0 M C.N F U st' a w->((∀g,F0 g->F g)/\∀g,F g->F0 g\/M.blk g\/w0.heap.size<=g)->ss.length=vs.length->(∀(i:Nat) (s:SV) (u:Value),ss[i]? = some s->vs[i]? = some u->Den P F w U s u)->
   FnOk P f/\Calls P f vs.toArray w fun en w'=>∃rv,en=.returned rv/\Rel P w0 M C.N F0 (st'.app (q.wr x)) (a.put (some d) rv) w':=by
  intro st' a w F U d f ks ss vs q x h hm hag hr hF hl hd;unfold qkD at h;split at h
  ·rename_i e hf;split at h
   ·rename_i r hc;cases h
    obtain⟨he,rfl⟩:=qr8 hfs.1 hf;obtain⟨d1,d2⟩:=qtC hr.mem.glob hfs.1 (l:=e.ji.regs) hl hd;exact⟨he.ok,qCo he hc hm hag hr hF d1 d2⟩
   ·cases h
  ·cases h
 have keys:∀ {d:Nat} {f:FuncId} {ks:List Key} {ss:List SV} {q:OR},qkD C st d f ks ss=some q->∀κ∈ks,κ∈q.rd:=by
  intro d f ks ss q h κ hκ;unfold qkD at h;split at h
  ·split at h
   ·rename_i r hc;cases h
    exact qze hc κ hκ
   ·cases h
  ·cases h
 unfold qxd at h;split at h
 ·rename_i f xs ats;split at h
  ·rename_i d;split at h
   ·rename_i e he;obtain⟨hx,rfl⟩:=qtD hfs.2 he;unfold evExt at h;split at h
    ·rename_i y hy;cases hb:Nat.blt d C.N with
     | false=>rw[hb] at h; cases h
     | true=>
      rw[hb] at h; cases h
      rw[zS] at hb;intro st' hag a w ⟨F,U,hr,hF⟩;rw[if_pos (qcD rfl)];unfold Oper.wp;rw[execOp_call_go];have ee:(#[]++xs.toArray.map a.eval++#[]:Array Value)=(xs.map a.eval).toArray:=by simp
      obtain⟨v,q1,q2⟩:=hx y _ hm F w (xs.map a.eval) (qxc hy (by simp) (qgM hr (fun κ hκ=>hag κ hκ)))
      rw[ee,q1];exact⟨F,U,hr.setR hb (.v q2),hF⟩
    ·cases h
   intro st' hag a w ⟨F,U,hr,hF⟩;rw[if_pos (qcD rfl)];unfold Oper.wp;rw[execOp_call_go];have ee:(#[]++xs.toArray.map a.eval++#[]:Array Value)=(xs.map a.eval).toArray:=by simp
   obtain⟨k1,k2⟩:=key (vs:=xs.map a.eval) h hm hag hr hF (by simp) (qgM hr (fun κ hκ=>hag κ (keys h κ hκ)))
   rw[ee,qgL k1];show Calls P f _ w _;refine k2.mono ?_
   rintro en w' ⟨rv,rfl,hrel⟩
   exact hrel
  ·cases h
 ·rename_i t xs ats;split at h
  ·rename_i d;unfold qAB at h;split at h
   ·rename_i f cells hclo;intro st' hag a w ⟨F,U,hr,hF⟩;rw[if_pos (qcD rfl)];have h0:=hr.regs t;rw[<-(hag (.r t) (keys h _ (by simp)):st.r t=st'.r t),hclo] at h0
    generalize hu:a.tmps.getD t undef=u at h0;cases h0 with
    | clo a1 a2=>
     rename_i caps;unfold Oper.wp;rw[qht a (some d) t xs.toArray ats rty pos af none (show a.eval (.tmp t)=_ from hu)]
     have ee:(#[]++xs.toArray.map a.eval++caps.toArray:Array Value)=(xs.map a.eval++caps).toArray:=by simp
     obtain⟨k1,k2⟩:=key (vs:=xs.map a.eval++caps) h hm hag hr hF (by simp[a1]) (fun i s u hs hu=>by
      by_cases hi:i<(xs.map st.ev).length
      ·rw[zY hi] at hs;rw[zY (by simpa using hi)] at hu
       exact qgM hr (fun κ hκ=>hag κ (keys h κ (zV _ hκ))) i s u hs hu
      ·rw[zX (by omega)] at hs
       rw[zX (by simpa using hi)] at hu
       refine a2 _ s u hs ?_
       rw[zQ] at hu ⊢; exact hu)
     rw[ee,qgL k1];show Calls P f _ w _;refine k2.mono ?_
     rintro en w' ⟨rv,rfl,hrel⟩
     exact hrel
   ·rename_i f x0 hclo;intro st' hag a w ⟨F,U,hr,hF⟩;rw[if_pos (qcD rfl)];have h0:=hr.regs t;rw[<-(hag (.r t) (keys h _ (by simp)):st.r t=st'.r t),hclo] at h0
    generalize hu:a.tmps.getD t undef=u at h0;cases h0 with
    | v a1=>
     obtain⟨cs,a1,rfl⟩:=a1;have a1':cs=[.func (.func f) #[] #[]]:=a1;subst a1';unfold Oper.wp;rw[qht a (some d) t xs.toArray ats rty pos af none (show a.eval (.tmp t)=.func (.func f) #[] #[] from hu)]
     have ee:(#[]++xs.toArray.map a.eval++#[]:Array Value)=(xs.map a.eval).toArray:=by simp
     obtain⟨k1,k2⟩:=key (vs:=xs.map a.eval) h hm hag hr hF (by simp) (qgM hr (fun κ hκ=>hag κ (keys h κ (zV _ hκ))))
     rw[ee,qgL k1];show Calls P f _ w _;refine k2.mono ?_
     rintro en w' ⟨rv,rfl,hrel⟩
     exact hrel
   ·rename_i fs0 x0 hclo;split at h
    case' h_2=>cases h
    rename_i f hat;intro st' hag a w ⟨F,U,hr,hF⟩;rw[if_pos (qcD rfl)];have h0:=hr.regs t;rw[<-(hag (.r t) (keys h _ (by simp)):st.r t=st'.r t),hclo] at h0
    generalize hu:a.tmps.getD t undef=u at h0;cases h0 with
    | v a1=>
     obtain⟨cs,a1,rfl⟩:=a1;have a1':cs=[.func (.func f) #[] #[]]:=(show cs=[fnVal fs0 x0] from a1).trans (congrArg (fun u=>[u]) (qxI hat))
     subst a1';unfold Oper.wp;rw[qht a (some d) t xs.toArray ats rty pos af none (show a.eval (.tmp t)=.func (.func f) #[] #[] from hu)]
     have ee:(#[]++xs.toArray.map a.eval++#[]:Array Value)=(xs.map a.eval).toArray:=by simp
     obtain⟨k1,k2⟩:=key (vs:=xs.map a.eval) h hm hag hr hF (by simp) (qgM hr (fun κ hκ=>hag κ (keys h κ (zV _ hκ))))
     rw[ee,qgL k1];show Calls P f _ w _;refine k2.mono ?_
     rintro en w' ⟨rv,rfl,hrel⟩
     exact hrel
   ·rename_i f e x0 hclo;intro st' hag a w ⟨F,U,hr,hF⟩;rw[if_pos (qcD rfl)];have h0:=hr.regs t;rw[<-(hag (.r t) (keys h _ (by simp)):st.r t=st'.r t),hclo] at h0
    generalize hu:a.tmps.getD t undef=u at h0;cases h0 with
    | v a1=>
     obtain⟨cs,a1,rfl⟩:=a1;obtain⟨ad,es,rfl,p1,p2,p3⟩:=a1;unfold Oper.wp;rw[qht a (some d) t xs.toArray ats rty pos af none (show a.eval (.tmp t)=Value.func (.func f) #[] #[Value.pointer (some (Addr.add ad 0))] from hu)]
     have ee:(#[]++xs.toArray.map a.eval++#[Value.pointer (some (Addr.add ad 0))]:Array Value)=(xs.map a.eval++[Value.pointer (some (Addr.add ad 0))]).toArray:=by simp
     obtain⟨k1,k2⟩:=key (vs:=xs.map a.eval++[.pointer (some (Addr.add ad 0))]) h hm hag hr hF (by simp) (fun i s u hs hu=>by
      by_cases hi:i<(xs.map st.ev).length
      ·rw[zY hi] at hs;rw[zY (by simpa using hi)] at hu
       exact qgM hr (fun κ hκ=>hag κ (keys h κ (zV _ hκ))) i s u hs hu
      ·rw[zX (by omega)] at hs
       rw[zX (by simpa using hi)] at hu
       simp only[zQ] at hs hu;cases hj:i-xs.length with
       | zero=>
        rw[hj] at hs hu;simp only[zl2,zt1] at hs hu;subst hs hu;exact .sel p1 p2 p3
       | succ n=>rw[hj] at hs; simp at hs)
     rw[ee,qgL k1];show Calls P f _ w _;refine k2.mono ?_
     rintro en w' ⟨rv,rfl,hrel⟩
     exact hrel
   ·split at h
    ·rename_i r hr;cases h
     exact qzf hr hm pos af
    ·cases h
  ·cases h
 ·cases h
theorem qAF(hΓ:Tys P C.Γ){op:Op}{r:VR}(h:qAC C.Γ st op=some r)(hg:r.g=true):VOk P w0 M C.N st op rty r:=by
 unfold qAC at h;split at h
 ·rename_i r' hv;cases h
  exact qAm hΓ hv
 ·exact qza hΓ h hg
theorem qv1(hΓ:Tys P C.Γ)(hfs:CxOk P C){dst:Option Nat}{op:Op}{q:OR}(h:qx6 C st dst op=some q)(hg:q.g=true){x:q.σ}(hm:q.m=some x)(pos:String)(af:Array Edge):
  RT P w0 M C.N F0 ops ⟨dst,op,rty,pos,af,none⟩ st q.rd (q.wr x):=by
 unfold qx6 at h;split at h
 ·rename_i r hv;split at h
  ·rename_i d;cases hb:Nat.blt d C.N with
   | false=>rw[hb] at h; cases h
   | true=>
    rw[hb] at h; cases h
    rw[zS] at hb;exact RT.value rfl rfl hb fun st' hag F U a w hr=>qxM hΓ hv hg st' hag F U a w hr (some d) pos af none
  ·cases h
   intro st' hag a w ⟨F,U,hr,hF⟩;rw[if_pos (qcD rfl)];obtain⟨u,h1,h2⟩:=qxM (M:=M) (w0:=w0) (N:=C.N) (rty:=rty) hΓ hv hg st' hag F U a w hr none pos af none;unfold Oper.wp;rw[h1];exact⟨F,U,hr,hF⟩
 ·split at h
  ·rename_i r hmem;cases hfz:memN C.ow (qDK dst) with
   | false=>
    rw[hfz] at h; cases h
    exact qxS hΓ hmem hg pos af
   | true=>
    rw[hfz] at h; simp only[zb] at h;split at h
    ·rename_i wr hwr;cases h
     exact(qxS hΓ hmem hg pos af).frz hwr
    ·cases h
  ·split at h
   ·rename_i r hv;cases dst with
    | none=>cases h
    | some d=>
     cases hb:Nat.blt d C.N with
     | false=>simp only[hb] at h; cases h
     | true=>
      simp only[hb] at h; cases h
      rw[zS] at hb;exact RT.value rfl rfl hb fun st' hag F U a w hr=>qAF hΓ hv hg st' hag F U a w hr (some d) pos af none
   ·split at h
    ·rename_i r hmem;cases h
     exact qzb hΓ hmem hg pos af
    ·exact qzg hfs h hm pos af
theorem qmW{N:Nat}:∀ {n:Nat} {p:CvE},p∈convL st N n->st.r p.t=.own p.b/\st.r p.z=.fzd p.b p.T p.x
 | 0,p,h=>by cases h
 | n+1,p,h=>by
  unfold convL at h;split at h
  ·rename_i b hb;split at h
   ·rename_i z T x hz;rcases zy.1 h with rfl | h
    ·exact⟨hb,qqj hz⟩
    ·exact qmW h
   ·exact qmW h
  ·exact qmW h
theorem qx8{N:Nat}{U:Env}:∀ {l:List CvE} {st:St},Rel' P w0 M N F U st a w->(∀p∈l,Den P F w U (.v p.T p.x) (a.tmps.getD p.t undef))->Rel' P w0 M N F U (st.app (convW l)) a w
 | [],_,h,_=>h
 | p::l,st,h,hd=>qx8 (l:=l) (h.reR (t:=p.t) (s:=.v p.T p.x) (hd p (by simp))) fun q hq=>hd q (zV _ hq)
theorem RT.conv{N:Nat}{o:Oper}{rd:List Key}{wr:List Wr}{l:List CvE}(hl:∀p∈l,st.r p.t=.own p.b/\st.r p.z=.fzd p.b p.T p.x)(h:RT P w0 M N F0 ops o (st.app (convW l)) rd wr):RT P w0 M N F0 ops o st (convK l++rd) (convW l++wr):=by
 intro st' hag a w hr;have hr2:Rel P w0 M N F0 (st'.app (convW l)) a w:=by
  obtain⟨F,U,hr,hF⟩:=hr;refine⟨F,U,qx8 hr fun p hp=>?_,hF⟩
  obtain⟨h1,h2⟩:=hl p hp;have k1:st'.r p.t=.own p.b:=by
   rw[<-h1];exact(hag (.r p.t) (mem_l (zp2.2 ⟨p,hp,by simp⟩))).symm
  have k2:st'.r p.z=.fzd p.b p.T p.x:=by
   rw[<-h2];exact(hag (.r p.z) (mem_l (zp2.2 ⟨p,hp,by simp⟩))).symm
  have d1:=hr.regs p.t;have d2:=hr.regs p.z;rw[k1] at d1;rw[k2] at d2;cases d1 with
  | own e1=>cases d2 with
   | fzd e2 e3=>
    rw[e2] at e1; injection e1 with e1
    rw[<-e1]; exact .v e3
 have h1:=h (st'.app (convW l)) (fun κ hκ=>qlJ _ (hag κ (mem_r hκ))) a w hr2
 rw[qcy];exact h1
theorem qCp(hΓ:Tys P C.Γ)(hfs:CxOk P C){dst:Option Nat}{op:Op}{q:OR}(h:evOne C st dst op=some q)(hg:q.g=true){x:q.σ}(hm:q.m=some x)(pos:String)(af:Array Edge):
  RT P w0 M C.N F0 ops ⟨dst,op,rty,pos,af,none⟩ st q.rd (q.wr x):=by
 unfold evOne at h;generalize memN C.ow (cvKey dst)=c at h;cases c with
 | false=>exact qv1 hΓ hfs h hg hm pos af
 | true=>
  simp only[zb] at h;split at h
  ·rename_i q0 hq;cases h
   exact RT.conv (fun p hp=>qmW hp) (qv1 hΓ hfs hq hg hm pos af)
  ·cases h
theorem qsa{o:Oper}{j gs:Nat}{want gb:Bool}(hg:o.guard=some (j,want))(hj:(ops[j]?).bind (·.dst)=some gs)(hs:gs<a.tmps.size)(hv:a.tmps.getD gs undef=.bool gb):
  Region.wanted o (yielded ops a.tmps)=qr9 want gb:=by
 have h1:a.tmps[gs]? = some (.bool gb):=by
  rw[zG1 hs]; congr 1;simpa[z91,zG1 hs] using hv
 have:Region.wanted o (yielded ops a.tmps)=(gb==want):=by simp[Region.wanted,hg,yielded,hj,h1]
 rw[this];cases gb <;> cases want <;> rfl
theorem RT.guardT{N:Nat}{o:Oper}{j gs:Nat}{want v:Bool}{rd:List Key}{wr:List Wr}(h:RT P w0 M N F0 ops { o with guard:=none } st rd wr)(hgd:o.guard=some (j,want))
  (hj:(ops[j]?).bind (·.dst)=some gs) (hgs:gs<N) (hv:st.r gs=.v .bool v) (hc:qr9 want v=true):RT P w0 M N F0 ops o st ([.r gs]++rd) wr:=by
 intro st' hag a w ⟨F,U,hr,hF⟩;have h0:=hr.regs gs;rw[<-(hag (.r gs) (by simp):st.r gs=st'.r gs),hv] at h0
 have hw:=qsa (a:=a) hgd hj (by rw[hr.sz]; exact hgs) (h0.bool rfl)
 rw[hw,hc,if_pos rfl];have h4:=h st' (fun κ hκ=>hag κ (by simp[hκ])) a w ⟨F,U,hr,hF⟩
 rw[if_pos (qcD rfl)] at h4;exact h4
theorem RT.guardF{N:Nat}{o:Oper}{j gs d:Nat}{want v:Bool}(hdst:o.dst=some d)(hgd:o.guard=some (j,want))
  (hj:(ops[j]?).bind (·.dst)=some gs) (hd:d<N) (hgs:gs<N) (hv:st.r gs=.v .bool v) (hc:qr9 want v=false):RT P w0 M N F0 ops o st [.r gs] [.r d (.raw undef)]:=by
 intro st' hag a w ⟨F,U,hr,hF⟩;have h0:=hr.regs gs;rw[<-(hag (.r gs) (by simp):st.r gs=st'.r gs),hv] at h0
 have hw:=qsa (a:=a) hgd hj (by rw[hr.sz]; exact hgs) (h0.bool rfl)
 rw[hw,hc,if_neg (by simp),hdst]
 exact⟨F,U,hr.setR hd (.raw _),hF⟩
theorem RT.guardU{N:Nat}{o:Oper}{j gs d:Nat}{want:Bool}(hdst:o.dst=some d)(hgd:o.guard=some (j,want))
  (hj:(ops[j]?).bind (·.dst)=some gs) (hd:d<N) (hgs:gs<N) (hv:isU (st.r gs)=true):RT P w0 M N F0 ops o st [.r gs] [.r d (.raw undef)]:=by
 intro st' hag a w ⟨F,U,hr,hF⟩;have h0:=hr.regs gs;rw[<-(hag (.r gs) (by simp):st.r gs=st'.r gs)] at h0
 have h5:a.tmps.getD gs undef=undef:=by
  unfold isU at hv;split at hv
  ·rename_i e; rw[e] at h0; generalize a.tmps.getD gs undef=u at h0 ⊢; cases h0; rfl
  ·cases hv
 have hs:gs<a.tmps.size:=by rw[hr.sz]; exact hgs
 have h6:a.tmps[gs]? = some undef:=by
  rw[zG1 hs]; congr 1;simpa[z91,zG1 hs] using h5
 have hw:Region.wanted o (yielded ops a.tmps)=false:=by simp[Region.wanted,hgd,yielded,hj,h6,undef]
 rw[hw,if_neg (by simp),hdst]
 exact⟨F,U,hr.setR hd (.raw _),hF⟩
theorem qx9{gs:Nat}{s:SV}(h:st.r gs=s):st.put (.r gs s)=st:=by
 show{ st with r:=fun t=>bif Nat.beq t gs then s else st.r t }=st
 have:(fun t=>bif Nat.beq t gs then s else st.r t)=st.r:=by
  funext t;cases hb:Nat.beq t gs with
  | true=>rw[zd hb]; exact h.symm
  | false=>rfl
 rw[this]
theorem qEq{s:SV}{b:Bool}(h:s.bool? = some b):s=.v .bool b:=by
 unfold SV.bool? at h;split at h
 ·cases h; rfl
 ·cases h
theorem qo1{A:Type}(hΓ:Tys P C.Γ)(hfs:CxOk P C){draw:Bool}{all:List Oper}(hall:all.toArray=ops){R:St->St->Prop}(hR:∀su sr x,R su sr->R (su.put x) (sr.put x)){st0:St}{k:St->Option A}{v:A}:
  ∀(rest:List Oper) (feet:List (List Key×List Key)) (su sr:St),R su sr->evOps C draw all rest feet su sr k=some v->G P w0 M C.N F0 draw ops st0 feet rest sr (fun sr'=>∃su',R su' sr'/\k su'=some v)
 | [],feet,su,sr,hr,h=>by
  simp only[evOps] at h;cases hd:draw with
  | false=>rw[hd] at h; exact G.done ⟨su,hr,h⟩
  | true=>
   rw[hd] at h;cases hrf:qoL all feet with
   | false=>rw[hrf] at h; cases h
   | true=>rw[hrf] at h; exact G.drawn (by rw[<-hall]; exact hrf) ⟨su,hr,h⟩
 | o::rest,feet,su,sr,hr,h=>by
  have hRapp:∀(l:List Wr) (su sr:St),R su sr->R (su.app l) (sr.app l):=by
   intro l;induction l with
   | nil=>intro _ _ h; exact h
   | cons x l ih=>intro su sr h; exact ih _ _ (hR su sr x h)
  -- an operation that runs
  have run:∀(ks:List Key) (su:St),R su sr->(∀ {rd:List Key} {wr:List Wr},RT P w0 M C.N F0 ops { o with guard:=none } sr rd wr->RT P w0 M C.N F0 ops o sr (ks++rd) wr)->
    runOp C o ks feet su sr (fun feet su sr=>evOps C draw all rest feet su sr k)=some v->G P w0 M C.N F0 draw ops st0 feet (o::rest) sr (fun sr'=>∃su',R su' sr'/\k su'=some v):=by
   intro ks su hr hrt h;unfold runOp at h;split at h
   ·cases h
   ·rename_i q hq;obtain⟨hg,h⟩:=qAz h;obtain⟨x,hm,h⟩:=zN1.1 h;exact G.step (hrt (qCp (rty:=o.type) hΓ hfs hq hg hm o.pos o.after)) (qo1 hΓ hfs hall hR rest _ _ _ (hRapp _ _ _ hr) h)
  unfold evOps at h;split at h
  ·rename_i hgd;generalize memN C.ow (ixKey o.dst)=mk at h;cases mk with
   | true=>
    simp only[zb] at h;split at h
    ·rename_i d t x s hdst hop;split at h
     ·rename_i K m hint;cases hd:Nat.blt d C.N with
      | false=>rw[hd] at h; cases h
      | true=>
       rw[hd] at h; simp only[zb] at h;rw[zS] at hd;generalize List.range (qDL C.Γ t)=js at h;induction js with
       | nil=>cases h
       | cons j l ih=>
        simp only[qAE] at h;cases hj:decide (m=(j:Int)) with
        | false=>rw[hj] at h; exact ih h
        | true=>
         rw[hj] at h; simp only[zb] at h;have hmj:=zx hj;split at h
         ·rename_i r hx;obtain⟨hg,h⟩:=qAz h;refine G.step (rd:=[.r s]++r.rd) (wr:=[.r d r.s]) ?_ (qo1 hΓ hfs hall hR rest _ _ _ (hR _ _ _ hr) h)
          have ho:o=⟨some d,.indexAddr t x (.tmp s),o.type,o.pos,o.after,none⟩:=by
           obtain⟨dst,op,ty,pos,af,g⟩:=o;simp only at hgd hdst hop ⊢;subst hgd hdst;unfold ixOp at hop;split at hop
           ·injection hop with hop; injection hop with e1 e2; injection e2 with e2 e3; subst e1 e2 e3; rfl
           ·cases hop
          rw[ho];refine RT.value (s:=r.s) rfl rfl hd fun st' hag F U a w hr=>?_
          have hs:=(hr.regs s);rw[<-(hag (.r s) (by simp):sr.r s=st'.r s)] at hs
          have he:a.eval (.tmp s)=.int K (j:Int):=by rw[<-hmj]; exact hs.int hint
          obtain⟨u,h1,h2⟩:=qrF (M:=M) (w0:=w0) (N:=C.N) (rty:=o.type) hΓ hx hg st' (fun κ hκ=>hag κ (by simp[hκ])) F U a w hr (some d) o.pos o.after none
          refine⟨u,?_,h2⟩
          rw[<-h1];have hc:a.eval (.const (.int K (j:Int)))=.int K (j:Int):=rfl;simp only[execOp,he,hc]
         ·cases h
     ·cases h
    ·rename_i d hdst hop;split at h
     ·rename_i t ht;split at h
      ·rename_i fs x hfx;cases hd:Nat.blt d C.N with
       | false=>rw[hd] at h; cases h
       | true=>
        rw[hd] at h; simp only[zb] at h;have hsr:=qFt hfx;generalize List.range fs.length=js at h;induction js with
        | nil=>cases h
        | cons j l ih=>
         simp only[qAD] at h;cases hj:decide (x=j+1) with
         | false=>rw[hj] at h; exact ih h
         | true=>
          rw[hj] at h; simp only[zb] at h;have hmj:=zx hj;subst hmj;have hr2:=hR su sr (.r t (.v (.fnl fs) (j+1:Nat))) hr;rw[qx9 hsr] at h hr2;refine run [] _ hr2 (fun{rd wr} hh=>?_) h
          have e:{ o with guard:=none }=o:=by obtain⟨_,_,_,_,_,_⟩:=o; simp only at hgd; subst hgd; rfl
          rw[e] at hh; exact hh
      ·cases h
     ·cases h
    ·cases h
   | false=>
   simp only[zc] at h;refine run [] su hr (fun{rd wr} hh=>?_) h
   have e:{ o with guard:=none }=o:=by obtain⟨_,_,_,_,_,_⟩:=o; simp only at hgd; subst hgd; rfl
   rw[e] at hh; exact hh
  ·rename_i j want hgd;split at h
   ·rename_i gs d hj hdst;have hj':(ops[j]?).bind (·.dst)=some gs:=by rw[<-hall,List.getElem?_toArray]; exact hj
    split at h
    ·rename_i b hb;have hsr:=qEq hb;cases hN:(Nat.blt gs C.N&&Nat.blt d C.N) with
     | false=>rw[hN] at h; cases h
     | true=>
      rw[hN] at h; simp only[zb] at h;rw[z8,zS,zS] at hN;have both:∀v0:Bool,b=v0->(bif qr9 want v0 then runOp C o [.r gs] feet (su.put (.r gs (.v .bool v0))) (sr.put (.r gs (.v .bool v0))) fun feet su sr=>evOps C draw all rest feet su sr k
        else qx7 gs d feet (su.put (.r gs (.v .bool v0))) (sr.put (.r gs (.v .bool v0))) fun feet su sr=>evOps C draw all rest feet su sr k)=some v->G P w0 M C.N F0 draw ops st0 feet (o::rest) sr (fun sr'=>∃su',R su' sr'/\k su'=some v):=by
       intro v0 hv0 h;subst hv0;have hr2:=hR su sr (.r gs (.v .bool b)) hr;rw[qx9 hsr] at h hr2;cases hc:qr9 want b with
       | true=>
        rw[hc] at h; simp only[zb] at h;exact run [.r gs] _ hr2 (fun hh=>RT.guardT hh hgd hj' hN.1 hsr hc) h
       | false=>
        rw[hc] at h; simp only[zc] at h;exact G.step (RT.guardF hdst hgd hj' hN.2 hN.1 hsr hc) (qo1 hΓ hfs hall hR rest _ _ _ (hR _ _ _ hr2) h)
      cases hbb:b with
      | true=>rw[hbb] at h; exact both true hbb h
      | false=>rw[hbb] at h; exact both false hbb h
    ·cases hu:(isU (sr.r gs)&&(Nat.blt gs C.N&&Nat.blt d C.N)) with
     | false=>rw[hu] at h; cases h
     | true=>
      rw[hu] at h; simp only[zb] at h;rw[z8,z8,zS,zS] at hu;exact G.step (RT.guardU hdst hgd hj' hu.2.2 hu.2.1 hu.1) (qo1 hΓ hfs hall hR rest _ _ _ (hR _ _ _ hr) h)
   ·cases h
end
def SV.fv1(b:Nat)(T:Ty)(x:T.den):SV->SV
 | .ptr b' o=>bif Nat.beq b' b then .sel T x o else .ptr b' o
 | s=>s
def SV.fv(b:Nat)(T:Ty)(x:T.den):SV->SV
 | .agg cs=>.agg (cs.map (SV.fv1 b T x))
 | .clo f cs=>.clo f (cs.map (SV.fv1 b T x))
 | s=>s.fv1 b T x
def qya(st:St)(b k:Nat)(T:Ty):Option T.den:=bif T.agg then SV.dat T (.agg (qbw st b 0 k)) else bif Nat.beq k 1 then SV.dat T (st.c b 0) else none
def St.freezeV(st κ:St)(b:Nat)(T:Ty):St:=
 match st.v b with
 | some (_,k)=>match qya (κ.sub st) b k T with
  | some x=>{ st with r:=fun t=>(st.r t).fv b T x,c:=fun b' o=>(st.c b' o).fv b T x,v:=fun y=>bif Nat.beq y b then none else st.v y }
  | none=>st
 | none=>st
section
variable {P:Program} {w0:World} {M:Mod} {N:Nat} {F0:Nat->Prop}
variable {F:Nat->Prop} {U:Env} {st:St} {a:Act} {w:World}
theorem Den.fv1{b:Nat}{T:Ty}{x:T.den}{u:Value}{F':Nat->Prop}(hF:∀g,F g->F' g)(hrd:∀g,U b=some (.pointer (some ⟨g,0,none⟩))->F' g/\∃es,RdC F' w T x es/\∀j u,es[j]? = some u->w.cell? ⟨g,j,none⟩=some u){s:SV}(hd:Den P F w U s u):Den P F' w U (s.fv1 b T x) u:=by
 have up:∀ {s u},Den P F w U s u->Den P F' w U s u:=fun hd=>hd.mono hF (fun _ _=>rfl) _ (fun _ _ h=>h)
 cases hd with
 | ptr hρ=>
  rename_i b' o g;show Den P F' w U (bif Nat.beq b' b then SV.sel T x o else .ptr b' o) _;cases hb:Nat.beq b' b with
  | false=>exact up (.ptr hρ)
  | true=>
   have:=zd hb; subst this;obtain⟨h1,es,h2,h3⟩:=hrd g hρ;have e:(.pointer (some ⟨g,o,none⟩):Value)=.pointer (some ((⟨g,0,none⟩:Addr).add o)):=by simp[Addr.add]
   rw[e];exact .sel (ad:=⟨g,0,none⟩) h1 h2 (fun j u hj=>by
    have e:(⟨g,0,none⟩:Addr).add j=⟨g,j,none⟩:=by simp[Addr.add]; try omega
    rw[e]; exact h3 j u hj)
 | v h=>exact up (.v h)
 | nptr h=>exact up (.nptr h)
 | raw=>exact up (.raw _)
 | any=>exact up (.any _)
 | own h=>exact up (.own h)
 | ael h hi=>exact up (.ael h hi)
 | aix h hi hm=>exact up (.aix h hi hm)
 | pre h hi=>exact up (.pre h hi)
 | pel h hi=>exact up (.pel h hi)
 | rest h h1 h2=>exact up (.rest h h1 h2)
 | agg a b c=>exact up (.agg a b c)
 | sel a b c=>exact up (.sel a b c)
 | tup a b=>exact up (.tup a b)
 | when a b=>exact up (.when a b)
 | clo a b=>exact up (.clo a b)
 | fn h=>exact up (.fn h)
 | fmap a b c d e f=>exact up (.fmap a b c d e f)
 | cut h=>exact up (.cut h)
 | nilq h=>exact up (.nilq h)
 | fzd h1 h2=>exact up (.fzd h1 h2)
theorem Den.fv{b:Nat}{T:Ty}{x:T.den}{u:Value}{F':Nat->Prop}(hF:∀g,F g->F' g)(hrd:∀g,U b=some (.pointer (some ⟨g,0,none⟩))->F' g/\∃es,RdC F' w T x es/\∀j u,es[j]? = some u->w.cell? ⟨g,j,none⟩=some u){s:SV}(hd:Den P F w U s u):Den P F' w U (s.fv b T x) u:=by
 have mp:∀ {ss:List SV} {vs:List Value},(∀(i:Nat) (s:SV) (u:Value),ss[i]? = some s->vs[i]? = some u->Den P F w U s u)->∀(i:Nat) (s:SV) (u:Value),(ss.map (SV.fv1 b T x))[i]? = some s->vs[i]? = some u->Den P F' w U s u:=by
  intro ss vs h i s u hs hu;rw[zH] at hs;obtain⟨s0,hs0,rfl⟩:=zg1.1 hs;exact(h i s0 u hs0 hu).fv1 hF hrd
 cases hd with
 | agg a1 a2 a3=>exact .agg (by simpa using a1) (mp a2) a3
 | clo a1 a2=>exact .clo (by simpa using a1) (mp a2)
 | v h=>exact Den.fv1 hF hrd (.v h)
 | nptr h=>exact Den.fv1 hF hrd (.nptr h)
 | raw=>exact Den.fv1 hF hrd (.raw _)
 | any=>exact Den.fv1 hF hrd (.any _)
 | ptr h=>exact Den.fv1 hF hrd (.ptr h)
 | own h=>exact Den.fv1 hF hrd (.own h)
 | ael h hi=>exact Den.fv1 hF hrd (.ael h hi)
 | aix h hi hm=>exact Den.fv1 hF hrd (.aix h hi hm)
 | pre h hi=>exact Den.fv1 hF hrd (.pre h hi)
 | pel h hi=>exact Den.fv1 hF hrd (.pel h hi)
 | rest h h1 h2=>exact Den.fv1 hF hrd (.rest h h1 h2)
 | sel a b c=>exact Den.fv1 hF hrd (.sel a b c)
 | tup a b=>exact Den.fv1 hF hrd (.tup a b)
 | when a b=>exact Den.fv1 hF hrd (.when a b)
 | fn h=>exact Den.fv1 hF hrd (.fn h)
 | fmap a b c d e f=>exact Den.fv1 hF hrd (.fmap a b c d e f)
 | cut h=>exact Den.fv1 hF hrd (.cut h)
 | nilq h=>exact Den.fv1 hF hrd (.nilq h)
 | fzd h1 h2=>exact Den.fv1 hF hrd (.fzd h1 h2)
theorem qAG{b k g:Nat}{ty:TypeId}{T:Ty}{x:T.den}{arr:Array Value}(hx:qya st b k T=some x)(hk:arr.size=k)(hc:∀j u,arr[j]? = some u->Den P F w U (st.c b j) u/\u.oneCell'=true):RdC F w T x arr.toList:=by
 unfold qya at hx;cases ha:T.agg with
 | true=>
  rw[ha] at hx; simp only[zb] at hx;have hd:Den P F w U (.agg (qbw st b 0 k)) (.agg arr.toList.toArray):=by
   refine .agg (by simp[qel,hk]) (fun i s u hs hu=>?_) (fun u hu=>?_)
   ·have hu':arr[i]? = some u:=by simpa using hu
    have hi:i<k:=by rw[<-hk]; exact(z01.1 hu').1
    have:s=st.c b i:=by
     rw[qfI hi,z11] at hs;injection hs with hs; exact hs.symm
    rw[this]; exact(hc i u hu').1
   ·obtain⟨i,hi,rfl⟩:=List.mem_iff_getElem.1 hu;exact(hc i _ (by simp at hi ⊢)).2
  obtain⟨cs,h1,h2⟩:=qda hx hd;have h3:cs=arr.toList:=by
   simp only[mkV,ha,zb] at h2;injection h2 with h2
   have:=congrArg Array.toList h2;simpa using this.symm
  rw[<-h3]; exact h1
 | false=>
  rw[ha] at hx; simp only[zc] at hx;cases hb:Nat.beq k 1 with
  | false=>rw[hb] at hx; cases hx
  | true=>
   rw[hb] at hx; simp only[zb] at hx;have hk1:=zd hb;obtain⟨u,hu⟩:∃u,arr=#[u]:=by
    have:arr.size=1:=by omega
    refine⟨arr[0],Array.ext (by simp[this]) (fun i h1 h2=>?_)⟩
    obtain rfl:i=0:=by omega
    rfl
   subst hu;obtain⟨cs,h1,h2⟩:=qda hx (hc 0 u rfl).1;have hs:=h1.size;have hs1:T.size=1:=by revert ha; cases T <;> intro ha <;> first | rfl | cases ha
   rw[hs1] at hs;obtain⟨c0,rfl⟩:=zB1.1 hs;have:u=c0:=by simpa[mkV,ha] using h2
   subst this; exact h1
theorem Rel'.freezeV{b k:Nat}{ty:TypeId}{T:Ty}{x:T.den}{st':St}(h:Rel' P w0 M N F U st a w)(hv:st.v b=some (ty,k))(hx:qya st b k T=some x)
  (e1:∀t,st'.r t=st.r t\/st'.r t=(st.r t).fv b T x) (e2:∀b' o,st'.c b' o=st.c b' o\/st'.c b' o=(st.c b' o).fv b T x) (e3:st'.v=fun y=>bif Nat.beq y b then none else st.v y) (e4:st'.d=st.d) (e5:st'.a=st.a):
  ∃F',Rel' P w0 M N F' U st' a w/\(∀g,F g->F' g)/\∀g,F' g->F g\/M.blk g\/w0.heap.size<=g:=by
 obtain⟨g,arr,h1,h2,h3,h4⟩:=h.mem.var b ty k hv;have hp0:st.present b:=.inl (by rw[hv]; simp)
 have hrd0:=qAG (ty:=ty) (g:=g) hx h3 h4;have ha0:st.a b=none:=by
  cases hxa:st.a b with
  | none=>rfl
  | some A=>
   obtain⟨u',q2,q3⟩:=h.mem.arr b _ hxa;rw[h1] at q2; cases q2
   exact(q3.novar rfl h2).elim
 have hF:∀g',F g'->F g'\/g'=g:=fun _ h=>.inl h
 have hrd:∀g',U b=some (.pointer (some ⟨g',0,none⟩))->(F g'\/g'=g)/\∃es,RdC (fun g'=>F g'\/g'=g) w T x es/\∀j u,es[j]? = some u->w.cell? ⟨g',j,none⟩=some u:=by
  intro g' hg;rw[h1] at hg; injection hg with hg; injection hg with hg; injection hg with hg; cases hg
  refine⟨.inr rfl,arr.toList,hrd0.mono hF (fun _ _=>rfl),fun j u hj=>?_⟩
  rw[cell_of_row w g j arr ty (0,0) h2];simpa using hj
 have up:∀ {s u},Den P F w U s u->Den P (fun g'=>F g'\/g'=g) w U s u:=fun hd=>hd.mono hF (fun _ _=>rfl) _ (fun _ _ h=>h)
 have hpr:∀b',st'.present b'->b'≠b/\st.present b':=by
  intro b' hp;by_cases e:b'=b
  ·subst e; exfalso;rcases hp with hp | hp
   ·rw[e3] at hp; exact hp (by simp)
   ·rw[e5] at hp; exact hp ha0
  ·refine⟨e,?_⟩
   rcases hp with hp | hp
   ·rw[e3] at hp; simp only[bq e,zc] at hp; exact .inl hp
   ·rw[e5] at hp; exact .inr hp
 refine⟨fun g'=>F g'\/g'=g,⟨h.fr,⟨fun b' hb=>h.mem.dom b' (by rw[<-e4]; exact hb),?_,?_,?_,?_,?_,h.mem.one,h.mem.glob.mono hF (fun _ _=>rfl)⟩,?_,fun t=>(e1 t).elim (fun e=>by rw[e]; exact up (h.regs t)) (fun e=>by rw[e]; exact(h.regs t).fv hF hrd),h.sz,h.df,h.pin⟩,hF,fun g' hg=>?_⟩
 ·intro b' ty' k' hv';rw[e3] at hv';simp only at hv';cases hb:Nat.beq b' b with
  | true=>rw[hb] at hv'; cases hv'
  | false=>
   rw[hb] at hv';obtain⟨g',arr',a1,a2,a3,a4⟩:=h.mem.var b' ty' k' hv';exact⟨g',arr',a1,a2,a3,fun j u hj=>⟨(e2 b' j).elim (fun e=>by rw[e]; exact up (a4 j u hj).1) (fun e=>by rw[e]; exact(a4 j u hj).1.fv hF hrd),(a4 j u hj).2⟩⟩
 ·intro b' A hA';rw[e5] at hA';obtain⟨v,a1,a2⟩:=h.mem.arr b' A hA';exact⟨v,a1,a2.keep hF (fun _ _=>rfl) (fun _ _=>rfl)⟩
 ·intro b1 b2 v1 v2 g p1 p2; exact h.mem.sep b1 b2 v1 v2 g (hpr b1 p1).2 (hpr b2 p2).2
 ·intro b' v g' p r hg hF';rcases hF' with hF' | hF'
  ·exact h.mem.own b' v g' (hpr b' p).2 r hg hF'
  ·subst hF'; exact(hpr b' p).1 (h.mem.sep b' b v _ g' (hpr b' p).2 hp0 r h1 hg rfl)
 ·intro g' hg;rcases hg with hg | rfl
  ·exact h.mem.fb g' hg
  ·exact h.mem.lt hp0 h1 rfl
 ·intro b' v g' p; exact h.lo b' v g' (hpr b' p).2
 ·rcases hg with hg | rfl
  ·exact .inl hg
  ·exact .inr (h.lo b _ g' hp0 h1 rfl)
end
/-! ### Arrays that are only read from now on; nil slices that become arrays -/
def owns1:SV->List Nat
 | .own b=>[b]
 | _=>[]
def qyb:SV->List Nat
 | .own b=>[b]
 | .agg cs=>cs.flatMap owns1
 | _=>[]
def qyc(st:St)(t:Nat):List Nat:=
 match st.r t with
 | .ptr b _=>match st.v b with
  | some (_,k)=>(qbw st b 0 k).flatMap qyb
  | none=>[]
 | s=>qyb s
def St.freezeL(st:St):List Nat->St
 | []=>st
 | b::l=>(st.freeze b).freezeL l
def frzL:List Sh1->List SV->List Nat
 | .data _::r,s::l=>qyb s++frzL r l
 | _::r,_::l=>frzL r l
 | _,_=>[]
def frzSh:Sh->SV->List Nat
 | .one (.data _),s=>qyb s
 | .agg l,.agg cs=>frzL l cs
 | _,_=>[]
def J.frz(j:J)(st:St):List Nat:=
 (j.regs.flatMap fun p=>frzSh p.2 (st.r p.1))++(j.vars.flatMap fun p=>frzL p.2.2 (qbw st (j.ren st p.1) 0 p.2.2.length))
def qgN:Ob->SV->Bool
 | .arr _ _ _,.raw (.slice none 0 0)=>true
 | .map _ _ _ _ _,.raw (.map none)=>true
 | _,_=>false
def Ob.empty:Ob->Bool
 | .arr _ _ l=>l.isEmpty
 | .map nn _ _ _ l=>!nn&&l.isEmpty
 | .iter _ _ _ _=>false
def nilV:Ob->Value
 | .arr _ _ _=>.slice none 0 0
 | .map _ _ _ _ _=>.map none
 | .iter _ _ _ _=>.map none
def ObSh.none:ObSh->Ob
 | .arr ty e=>.arr ty e []
 | .one ty e=>.arr ty e [e.dflt]
 | .map nn ty k v=>.map nn ty k v []
 | .iter on k v=>.iter on k v []
def obOf:List (Nat×ObSh)->Nat->Option Ob
 | [],_=>none
 | (x,s)::r,b=>bif Nat.beq b x then some s.none else obOf r b
def St.nilR(st:St)(t n:Nat)(A:Ob):St:=bif !st.d n&&(qgN A (st.r t)&&A.empty) then((st.put (.d n)).put (.a n (some A))).put (.r t (.own n)) else st
def St.nilC(st:St)(b o n:Nat)(A:Ob):St:=bif !st.d n&&(qgN A (st.c b o)&&A.empty) then((st.put (.d n)).put (.a n (some A))).put (.c b o (.own n)) else st
def St.nilG(st:St)(t i n:Nat)(A:Ob):St:=match st.r t with
 | .agg cs=>bif !st.d n&&(qgN A (nthS cs i)&&A.empty) then((st.put (.d n)).put (.a n (some A))).put (.r t (.agg (cs.set i (.own n)))) else st
 | _=>st
def nilG1(arrs:List (Nat×ObSh))(t:Nat):Nat->List Sh1->St->St
 | _,[],st=>st
 | i,s::r,st=>nilG1 arrs t (i+1) r (match s with
  | .own b=>match obOf arrs b with
   | some A=>st.nilG t i (fresh st t 15 0) A
   | none=>st
  | _=>st)
def nilR1(arrs:List (Nat×ObSh))(t:Nat)(s:Sh)(st:St):St:=
 match s with
 | .agg l=>nilG1 arrs t 0 l st
 | .one (.own b)=>match obOf arrs b with
  | some A=>bif qgN A (st.r t) then st.nilR t (fresh st t 3 12) A else st
  | none=>st
 | _=>st
def nilRegs(arrs:List (Nat×ObSh)):List (Nat×Sh)->St->St
 | [],st=>st
 | (t,s)::r,st=>nilRegs arrs r (nilR1 arrs t s st)
def nilC1(arrs:List (Nat×ObSh))(b' o:Nat)(s:Sh1)(st:St):St:=
 match s with
 | .own b=>match obOf arrs b with
  | some A=>bif qgN A (st.c b' o) then st.nilC b' o (fresh st (b'+o) 7 8) A else st
  | none=>st
 | _=>st
def nilCells(arrs:List (Nat×ObSh))(b':Nat):Nat->List Sh1->St->St
 | _,[],st=>st
 | o,s::r,st=>nilCells arrs b' (o+1) r (nilC1 arrs b' o s st)
def nilVars(arrs:List (Nat×ObSh))(π:Nat->Nat):List (Nat×TypeId×List Sh1)->St->St
 | [],st=>st
 | (b,_,l)::r,st=>nilVars arrs π r (nilCells arrs (π b) 0 l st)
def St.weak(st:St)(b:Nat):St:=match st.a b with
 | some (.map true ty k v l)=>st.put (.a b (some (.map false ty k v l)))
 | some (.iter true k v l)=>st.put (.a b (some (.iter false k v l)))
 | _=>st
def weakA(π:Nat->Nat):List (Nat×ObSh)->St->St
 | [],st=>st
 | (b,.map false _ _ _)::r,st=>weakA π r (st.weak (π b))
 | (b,.iter false _ _)::r,st=>weakA π r (st.weak (π b))
 | _::r,st=>weakA π r st
def J.coerce(j:J)(st:St):St:=
 let st1:=st.freezeL (j.frz st)
 let st2:=nilVars j.arrs (j.ren st1) j.vars (nilRegs j.arrs j.regs st1)
 weakA (j.ren st2) j.arrs st2
def qAH(pins:List Nat)(κ:St)(j:J)(π:Nat->Nat):Bool:=j.ok&&noDup (j.names.map π)&&j.keepOk κ&&pins.all fun b=>memN j.names b&&Nat.beq (π b) b
def J.packC(j:J)(pins:List Nat)(κ st:St):Option (CT j.ct):=
 let st2:=j.coerce st
 bif qAH pins κ j (j.ren st2) then j.pack (j.ren st2) st2 else none
section
variable {P:Program} {w0:World} {M:Mod} {N:Nat} {F0:Nat->Prop}
variable {F:Nat->Prop} {U:Env} {st:St} {a:Act} {w:World}
def LeS(P:Program)(w0:World)(M:Mod)(N:Nat)(F0:Nat->Prop)(κ st st':St):Prop:=∀a w,Rel P w0 M N F0 (κ.sub st) a w->Rel P w0 M N F0 (κ.sub st') a w
theorem LeS.refl{κ:St}:LeS P w0 M N F0 κ st st:=fun _ _ h=>h
theorem LeS.trans{κ st st' st'':St}(h:LeS P w0 M N F0 κ st st')(h':LeS P w0 M N F0 κ st' st''):LeS P w0 M N F0 κ st st'':=fun a w hr=>h' a w (h a w hr)
theorem LeS.freezeT{κ:St}{b:Nat}{A:Ob}{T:Ty}{x:T.den}(hA:st.a b=some A)(hi:A.Is T x):LeS P w0 M N F0 κ st (st.freezeT b T x):=by
 intro a w hr;obtain⟨F,U,h,hF⟩:=hr;obtain⟨u,hu,_⟩:=h.mem.arr b _ (show(κ.sub st).a b=_ from hA)
 have hrd:∀v,U b=some v->RdV (fun g=>F g\/blkOf u=some g) w T x v:=by
  intro v hv; rw[hu] at hv; cases hv; exact is_rd h.mem (show(κ.sub st).a b=_ from hA) hi hu
 have key:∀(s:SV) (v:Value),Den P F w U (s.res κ) v->Den P (fun g=>F g\/blkOf u=some g) w U ((s.fz b T x).res κ) v:=by
  intro s v hd;have hfz:s.res κ=s->Den P (fun g=>F g\/blkOf u=some g) w U ((s.fz b T x).res κ) v:=fun h=>by
   rw[h] at hd;have h2:=Den.fz (b:=b) (e:=T) (l:=x) (fun g hg=>Or.inl hg) hrd hd
   rw[h2.res]; exact h2
  cases s with
  | kr t=>exact hd.mono (fun _ h=>.inl h) (fun _ _=>rfl) _ (fun _ _ h=>h)
  | kc b' o=>exact hd.mono (fun _ h=>.inl h) (fun _ _=>rfl) _ (fun _ _ h=>h)
  | _=>exact hfz rfl
 obtain⟨h1,h2⟩:=h.freeze (st':=κ.sub (st.freezeT b T x)) (show(κ.sub st).a b=_ from hA) hu
  (fun t v hd=>key _ v hd) (fun b' o v hd=>key _ v hd) rfl rfl rfl
 exact⟨_,U,h1,fun g hg=>.inl (hF.1 g hg),fun g hg=>hg.elim (hF.2 g) fun hg=>.inr (h2 g hg)⟩
theorem LeS.freeze{κ:St}(b:Nat):LeS P w0 M N F0 κ st (st.freeze b):=by
 unfold St.freeze;split
 ·rename_i hA; exact LeS.freezeT hA .arr
 ·rename_i hA; exact LeS.freezeT hA .map
 ·exact .refl
theorem LeS.freezeL{κ:St}:∀(l:List Nat) {st:St},LeS P w0 M N F0 κ st (st.freezeL l)
 | [],_=>.refl
 | b::l,_=>(LeS.freeze b).trans (LeS.freezeL l)
theorem LeS.freezeV{κ:St}(b:Nat)(T:Ty):LeS P w0 M N F0 κ st (st.freezeV κ b T):=by
 intro a w hr;unfold St.freezeV;split
 ·rename_i ty k hv;split
  ·rename_i x hx;obtain⟨F,U,h,hF⟩:=hr;have key:∀s:SV,(s.fv b T x).res κ=s.res κ\/(s.fv b T x).res κ=(s.res κ).fv b T x:=by
    intro s;cases s with
    | kr t=>exact .inl rfl
    | kc b' o=>exact .inl rfl
    | ptr b' o=>
     refine .inr ?_
     show(bif Nat.beq b' b then SV.sel T x o else .ptr b' o).res κ=(bif Nat.beq b' b then SV.sel T x o else .ptr b' o);cases Nat.beq b' b <;> rfl
    | _=>exact .inr rfl
   obtain⟨F',h1,h2,h3⟩:=h.freezeV (b:=b) (T:=T) (x:=x) (st':=κ.sub { st with r:=fun t=>(st.r t).fv b T x,c:=fun b' o=>(st.c b' o).fv b T x,v:=fun y=>bif Nat.beq y b then none else st.v y }) (show(κ.sub st).v b=_ from hv) hx
    (fun t=>key _) (fun b' o=>key _) rfl rfl rfl
   exact⟨F',U,h1,fun g hg=>h2 g (hF.1 g hg),fun g hg=>(h3 g hg).elim (hF.2 g) .inr⟩
  ·exact hr
 ·exact hr
def St.freezeVs(κ:St):List (Nat×Ty)->St->St
 | [],st=>st
 | (t,T)::l,st=>match st.r t with
  | .ptr b _=>St.freezeVs κ l ((st.freezeL (qyc st t)).freezeV κ b T)
  | _=>St.freezeVs κ l st
theorem LeS.freezeVs{κ:St}:∀(l:List (Nat×Ty)) {st:St},LeS P w0 M N F0 κ st (St.freezeVs κ l st)
 | [],_=>.refl
 | (t,T)::l,st=>by
  unfold St.freezeVs;split
  ·exact(LeS.freezeL _).trans ((LeS.freezeV _ _).trans (LeS.freezeVs l))
  ·exact LeS.freezeVs l
theorem qxe{A:Ob}{s:SV}{u:Value}(h:qgN A s=true)(hd:Den P F w U s u):u=nilV A/\∀κ,s.res κ=s:=by
 unfold qgN at h;split at h
 ·cases hd; exact⟨rfl,fun _=>rfl⟩
 ·cases hd; exact⟨rfl,fun _=>rfl⟩
 ·cases h
theorem qAI{A:Ob}{s:SV}(h:qgN A s=true)(κ:St):s.res κ=s:=by
 cases s <;> first | rfl | (cases A <;> cases h)
theorem qAJ(A:Ob):blkOf (nilV A)=none/\(nilV A).oneCell'=true:=by cases A <;> exact⟨rfl,rfl⟩
theorem Ob.empty_ok{A:Ob}(h:A.empty=true):ObOk F w A (nilV A):=by
 cases A with
 | arr ty e l=>
  cases l with
  | nil=>exact⟨[],OwnR.nil w ty e.size none,fun i x hx=>by simp at hx⟩
  | cons=>cases h
 | map nn ty k v l=>
  simp only[Ob.empty,z8,zt] at h;cases l with
  | nil=>exact .inl ⟨h.1,rfl,rfl⟩
  | cons=>cases h.2
 | iter=>cases h
theorem qxf(h:Rel' P w0 M N F U st a w){n:Nat}(hn:st.d n=false){A:Ob}(hA:A.empty=true):Rel' P w0 M N F (U.set n (nilV A)) ((st.put (.d n)).put (.a n (some A))) a w:=by
 obtain⟨hv,_,_⟩:=h.mem.absent hn;have h1:=h.name (b:=n) (u:=nilV A) hn (qAJ A).2;exact h1.addA (A:=A) (by unfold Env.set; rw[if_pos rfl]) hv (Ob.empty_ok hA) (fun g hg=>by rw[(qAJ A).1] at hg; cases hg)
theorem LeS.nilR{κ:St}(t n:Nat)(A:Ob):LeS P w0 M N F0 κ st (st.nilR t n A):=by
 intro a w hr;unfold St.nilR;cases hc:(!st.d n&&(qgN A (st.r t)&&A.empty)) with
 | false=>exact hr
 | true=>
  rw[z8,z8,zt] at hc;obtain⟨F,U,h,hF⟩:=hr;have h1:=qxf h (n:=n) hc.1 hc.2.2;refine⟨F,U.set n (nilV A),⟨h1.fr,h1.mem.congr rfl rfl rfl rfl,h1.lo,fun t'=>?_,h1.sz,h1.df,h1.pin⟩,hF⟩
  show Den P F w _ ((bif Nat.beq t' t then SV.own n else st.r t').res κ) _;cases hb:Nat.beq t' t with
  | true=>
   have:=zd hb; subst this;have h2:=h.regs t';have h3:(κ.sub st).r t'=st.r t':=qAI hc.2.1 κ;rw[h3] at h2;obtain⟨h4,_⟩:=qxe hc.2.1 h2;rw[h4];exact .own (by unfold Env.set; rw[if_pos rfl])
  | false=>exact h1.regs t'
theorem LeS.nilG{κ:St}(t i n:Nat)(A:Ob):LeS P w0 M N F0 κ st (st.nilG t i n A):=by
 intro a w hr;unfold St.nilG;split
 ·rename_i cs hcs;cases hc:(!st.d n&&(qgN A (nthS cs i)&&A.empty)) with
  | false=>exact hr
  | true=>
   rw[z8,z8,zt] at hc;obtain⟨F,U,h,hF⟩:=hr;have h1:=qxf h (n:=n) hc.1 hc.2.2;refine⟨F,U.set n (nilV A),⟨h1.fr,h1.mem.congr rfl rfl rfl rfl,h1.lo,fun t'=>?_,h1.sz,h1.df,h1.pin⟩,hF⟩
   show Den P F w _ ((bif Nat.beq t' t then SV.agg (cs.set i (.own n)) else st.r t').res κ) _;cases hb:Nat.beq t' t with
   | true=>
    have:=zd hb; subst this;have h2:Den P F w (U.set n (nilV A)) ((st.r t').res κ) _:=h1.regs t';rw[hcs] at h2;generalize a.tmps.getD t' undef=u at h2;show Den P F w _ (SV.agg (cs.set i (.own n))) u;have h3:Den P F w (U.set n (nilV A)) (SV.agg cs) u:=h2;cases h3 with
    | agg hl hi ho=>
     rename_i vs;refine .agg (by simpa using hl) (fun j s u hs hu=>?_) ho
     by_cases hj:j=i
     ·subst hj;have hjl:j<cs.length:=by
       have:=(zp.1 hs).1; simpa using this
      rw[zu2 hjl] at hs;cases hs
      have hg:cs[j]? = some (nthS cs j):=by rw[quq (zj hjl)]; exact zj hjl
      obtain⟨h4,_⟩:=qxe hc.2.1 (hi j _ u hg hu);rw[h4];exact .own (by unfold Env.set; rw[if_pos rfl])
     ·rw[zE2 (Ne.symm hj)] at hs;exact hi j s u hs hu
   | false=>exact h1.regs t'
 ·exact hr
theorem LeS.nilG1{κ:St}(arrs:List (Nat×ObSh))(t:Nat):∀(l:List Sh1) (i:Nat) {st:St},LeS P w0 M N F0 κ st (nilG1 arrs t i l st)
 | [],_,_=>.refl
 | s::r,i,st=>by
  unfold Sq.nilG1;refine LeS.trans ?_ (LeS.nilG1 arrs t r (i+1))
  split
  ·split
   ·exact LeS.nilG _ _ _ _
   ·exact .refl
  ·exact .refl
theorem LeS.nilC{κ:St}(b o n:Nat)(A:Ob):LeS P w0 M N F0 κ st (st.nilC b o n A):=by
 intro a w hr;unfold St.nilC;cases hc:(!st.d n&&(qgN A (st.c b o)&&A.empty)) with
 | false=>exact hr
 | true=>
  rw[z8,z8,zt] at hc;obtain⟨F,U,h,hF⟩:=hr;have h1:=qxf h (n:=n) hc.1 hc.2.2;refine⟨F,U.set n (nilV A),⟨h1.fr,⟨h1.mem.dom,?_,h1.mem.arr,h1.mem.sep,h1.mem.own,h1.mem.fb,h1.mem.one,h1.mem.glob⟩,h1.lo,h1.regs,h1.sz,h1.df,h1.pin⟩,hF⟩
  intro b' ty' k hv;obtain⟨g,arr,q1,q2,q3,q4⟩:=h1.mem.var b' ty' k hv;refine⟨g,arr,q1,q2,q3,fun j x hj=>⟨?_,(q4 j x hj).2⟩⟩
  show Den P F w _ ((bif Nat.beq b' b&&Nat.beq j o then SV.own n else st.c b' j).res κ) _;cases hb:(Nat.beq b' b&&Nat.beq j o) with
  | true=>
   rw[z8] at hb;have e1:=zd hb.1;have e2:=zd hb.2;subst e1 e2;have h2:Den P F w _ ((st.c b' j).res κ) x:=(q4 j x hj).1;have h3:(st.c b' j).res κ=st.c b' j:=qAI hc.2.1 κ;rw[h3] at h2;obtain⟨h4,_⟩:=qxe hc.2.1 h2;rw[h4];exact .own (by unfold Env.set; rw[if_pos rfl])
  | false=>exact(q4 j x hj).1
theorem LeS.weakO{κ:St}{b:Nat}{A A':Ob}(hA:st.a b=some A)(hA':∀F w u,ObOk F w A u->ObOk F w A' u):LeS P w0 M N F0 κ st (st.put (.a b (some A'))):=by
 intro a w hr;obtain⟨F,U,h,hF⟩:=hr;have ha:∀x,(κ.sub (st.put (.a b (some A')))).a x=if x=b then some A' else st.a x:=by
  intro x;show(bif Nat.beq x b then _ else st.a x)=_;by_cases e:x=b
  ·subst e; simp
  ·rw[bq e,if_neg e]; rfl
 have hp:∀x,(κ.sub (st.put (.a b (some A')))).present x->(κ.sub st).present x:=by
  rintro x (hx | hx)
  ·exact .inl hx
  ·rw[ha] at hx;by_cases e:x=b
   ·subst e;refine .inr ?_
    rw[show(κ.sub st).a x=st.a x from rfl,hA]; simp
   ·rw[if_neg e] at hx; exact .inr hx
 refine⟨F,U,⟨h.fr,⟨h.mem.dom,h.mem.var,fun x B hx=>?_,fun b1 b2 v1 v2 g p1 p2=>h.mem.sep b1 b2 v1 v2 g (hp _ p1) (hp _ p2),fun b1 v1 g p1=>h.mem.own b1 v1 g (hp _ p1),h.mem.fb,h.mem.one,h.mem.glob⟩,fun b1 v1 g p1=>h.lo b1 v1 g (hp _ p1),h.regs,h.sz,h.df,h.pin⟩,hF⟩
 rw[ha] at hx;by_cases e:x=b
 ·subst e;rw[if_pos rfl] at hx; cases hx
  obtain⟨u,q1,q2⟩:=h.mem.arr x _ (show(κ.sub st).a x=_ from hA)
  exact⟨u,q1,hA' F w u q2⟩
 ·rw[if_neg e] at hx;exact h.mem.arr x B hx
theorem LeS.weak{κ:St}(b:Nat):LeS P w0 M N F0 κ st (st.weak b):=by
 unfold St.weak;split
 ·rename_i hA;refine LeS.weakO hA fun F w u h=>?_
  rcases h with⟨h,_⟩ | h
  ·cases h
  ·exact .inr h
 ·rename_i hA;refine LeS.weakO hA fun F w u h=>?_
  obtain⟨it,mo,since,seen,last,e,h1,h2,_⟩:=h;exact⟨it,mo,since,seen,last,e,h1,h2,fun h=>by cases h⟩
 ·exact .refl
theorem LeS.weakA{κ:St}(π:Nat->Nat):∀(l:List (Nat×ObSh)) {st:St},LeS P w0 M N F0 κ st (weakA π l st)
 | [],_=>.refl
 | (b,.map false _ _ _)::r,st=>(LeS.weak (π b)).trans (LeS.weakA π r)
 | (b,.map true _ _ _)::r,st=>LeS.weakA π r
 | (b,.arr _ _)::r,st=>LeS.weakA π r
 | (b,.one _ _)::r,st=>LeS.weakA π r
 | (b,.iter true _ _)::r,st=>LeS.weakA π r
 | (b,.iter false _ _)::r,st=>(LeS.weak (π b)).trans (LeS.weakA π r)
theorem LeS.nilRegs{κ:St}(arrs:List (Nat×ObSh)):∀(l:List (Nat×Sh)) {st:St},LeS P w0 M N F0 κ st (nilRegs arrs l st)
 | [],_=>.refl
 | (t,s)::r,st=>by
  refine LeS.trans (st':=nilR1 arrs t s st) ?_ (LeS.nilRegs arrs r)
  unfold nilR1;split
  ·exact LeS.nilG1 _ _ _ _
  ·split
   ·cases qgN _ (st.r t) with
    | true=>exact LeS.nilR _ _ _
    | false=>exact .refl
   ·exact .refl
  ·exact .refl
theorem LeS.nilCells{κ:St}(arrs:List (Nat×ObSh))(b':Nat):∀(l:List Sh1) (o:Nat) {st:St},LeS P w0 M N F0 κ st (nilCells arrs b' o l st)
 | [],_,_=>.refl
 | s::r,o,st=>by
  refine LeS.trans (st':=nilC1 arrs b' o s st) ?_ (LeS.nilCells arrs b' r (o+1))
  unfold nilC1;split
  ·split
   ·cases qgN _ (st.c b' o) with
    | true=>exact LeS.nilC _ _ _ _
    | false=>exact .refl
   ·exact .refl
  ·exact .refl
theorem LeS.nilVars{κ:St}(arrs:List (Nat×ObSh))(π:Nat->Nat):∀(l:List (Nat×TypeId×List Sh1)) {st:St},LeS P w0 M N F0 κ st (nilVars arrs π l st)
 | [],_=>.refl
 | (b,ty,cs)::r,st=>(LeS.nilCells arrs (π b) cs 0).trans (LeS.nilVars arrs π r)
theorem qo2{pins:List Nat}{κ:St}{j:J}{st:St}{x:CT j.ct}(hpins:∀b v,M.pin b=some v->b∈pins)(h:j.packC pins κ st=some x){κ':St}{kr:Nat->SV}{kc:Nat->Nat->SV}(hkr:∀t,(kr t).res κ'=κ.r t)(hkc:∀b o,(kc b o).res κ'=κ.c b o)
  {a:Act} {w:World} (hr:Rel P w0 M N F0 (κ.sub st) a w):Rel P w0 M N F0 (κ'.sub (j.put kr kc x)) a w:=by
 unfold J.packC at h;simp only at h;generalize hst2:j.coerce st=st2 at h;have hle:LeS P w0 M N F0 κ st st2:=by
  rw[<-hst2];unfold J.coerce;exact(LeS.freezeL _).trans ((LeS.nilRegs _ _).trans ((LeS.nilVars _ _ _).trans (LeS.weakA _ _)))
 cases hok:qAH pins κ j (j.ren st2) with
 | false=>rw[hok] at h; cases h
 | true=>
  rw[hok] at h; simp only[zb] at h;unfold qAH at hok;simp only[z8] at hok;obtain⟨⟨⟨k1,k2⟩,k3⟩,k4⟩:=hok;obtain⟨l,hl,hput⟩:=qxW h;obtain⟨F,U,hr2,hF⟩:=hle a w hr;refine⟨F,U.ren (j.ren st2) j.names,?_,hF⟩
  rw[hput];refine hr2.repack hl k1 k2 (fun b g hp=>?_) k3 hkr hkc
  have hb:=hpins b g hp;rw[zq] at k4;have:=k4 b hb;rw[z8] at this;exact⟨qaU.1 this.1,zd this.2⟩
end
/-! ### Code -/
inductive Ex where
 | n | x (id:Nat) | r
def Ex.to:Ex->Exit
 | .n=>.normal
 | .x id=>.exit id
 | .r=>.ret
def Ex.eqb:Ex->Ex->Bool
 | .n,.n=>true
 | .x i,.x j=>Nat.beq i j
 | .r,.r=>true
 | _,_=>false
theorem Ex.eqb_eq{e e':Ex}(h:e.eqb e'=true):e=e':=by
 cases e <;> cases e' <;> first | rfl | (simp only[Ex.eqb] at h; rw[zd h]) | cases h
structure Alt where
 e:Ex
 j:J
inductive Wrap where
 | fz (ts:List Nat)
 | fv (ts:List (Nat×Ty))
 | join (alts:List Alt)
inductive Plan where
 | nil
 | mk (ws:List Wrap) (lp:Option (J×List Alt)) (l r:Plan)
def Plan.ws:Plan->List Wrap
 | .nil=>[]
 | .mk ws _ _ _=>ws
def Plan.lp:Plan->Option (J×List Alt)
 | .nil=>none
 | .mk _ lp _ _=>lp
def Plan.l:Plan->Plan
 | .nil=>.nil
 | .mk _ _ l _=>l
def Plan.r:Plan->Plan
 | .nil=>.nil
 | .mk _ _ _ r=>r
def AT:List Alt->Type
 | []=>Empty
 | [a]=>CT a.j.ct
 | a::b::r=>CT a.j.ct⊕AT (b::r)
def qkE(pins:List Nat)(κ:St):(l:List Alt)->Ex->St->Option (AT l)
 | [],_,_=>none
 | [a],e,st=>bif a.e.eqb e then a.j.packC pins κ st else none
 | a::b::r,e,st=>bif a.e.eqb e then(match a.j.packC pins κ st with
   | some x=>some (.inl x)
   | none=>none) else(match qkE pins κ (b::r) e st with
   | some x=>some (.inr x)
   | none=>none)
def qo3{A:Type}(st:St):(l:List Alt)->AT l->(Ex->St->Option A)->Option A
 | [],x,_=>nomatch x
 | [a],x,k=>k a.e (a.j.put st.r st.c x)
 | a::b::r,x,k=>match x with
  | .inl y=>k a.e (a.j.put st.r st.c y)
  | .inr y=>qo3 st (b::r) y k
def keptR:List (Nat×Sh)->Nat->Bool
 | [],_=>false
 | (t',.one .keep)::r,t=>Nat.beq t t' || keptR r t
 | _::r,t=>keptR r t
def keptL:Nat->List Sh1->Nat->Bool
 | _,[],_=>false
 | o',.keep::r,o=>Nat.beq o o' || keptL (o'+1) r o
 | o',_::r,o=>keptL (o'+1) r o
def keptV:List (Nat×TypeId×List Sh1)->Nat->Nat->Bool
 | [],_,_=>false
 | (b',_,l)::r,b,o=>(Nat.beq b b'&&keptL 0 l o) || keptV r b o
def hide(js:List J)(s:St):St:={ s with r:=fun t=>bif js.any (fun j=>keptR j.regs t) then .kr t else s.r t,c:=fun b o=>bif js.any (fun j=>keptV j.vars b o) then .kc b o else s.c b o }
inductive Iter {σ ε:Type} (step:σ->Option (σ⊕ε)):σ->ε->Prop where
 | done {x:σ} {e:ε}:step x=some (.inr e)->Iter step x e
 | next {x y:σ} {e:ε}:step x=some (.inl y)->Iter step y e->Iter step x e
noncomputable def iterR{σ ε:Type}(n:Nat)(step:σ->Option (σ⊕ε))(x:σ):Option ε:=
 Nat.rec (motive:=fun _=>σ->Option ε) (fun _=>none) (fun _ ih x=>match step x with
  | some (.inl y)=>ih y
  | some (.inr e)=>some e
  | none=>none) n x
theorem qut{σ ε:Type}{step:σ->Option (σ⊕ε)}:∀ {n:Nat} {x:σ} {e:ε},iterR n step x=some e->Iter step x e
 | 0,x,e,h=>by cases h
 | n+1,x,e,h=>by
  have h:(match step x with
   | some (.inl y)=>iterR n step y
   | some (.inr e)=>some e
   | none=>none)=some e:=h
  split at h
  ·rename_i y hy; exact .next hy (qut h)
  ·rename_i e' he; cases h; exact .done he
  ·cases h
open Classical in
noncomputable def iter{σ ε:Type}(step:σ->Option (σ⊕ε))(x:σ):Option ε:=match iterR 18446744073709551616 step x with
 | some e=>some e
 | none=>if h:∃e,Iter step x e then some h.choose else none
theorem qsb{σ ε:Type}{step:σ->Option (σ⊕ε)}{x:σ}{e:ε}(h:iter step x=some e):Iter step x e:=by
 unfold iter at h;split at h
 ·rename_i e' he; cases h; exact qut he
 ·split at h
  ·rename_i h1;cases h; exact h1.choose_spec
  ·cases h
theorem Iter.det{σ ε:Type}{step:σ->Option (σ⊕ε)}{x:σ}{e e':ε}(h:Iter step x e)(h':Iter step x e'):e=e':=by
 induction h with
 | done h1=>
  cases h' with
  | done h2=>rw[h1] at h2; injection h2 with h2; injection h2
  | next h2 _=>rw[h1] at h2; injection h2 with h2; cases h2
 | next h1 _ ih=>
  cases h' with
  | done h2=>rw[h1] at h2; injection h2 with h2; cases h2
  | next h2 h3=>rw[h1] at h2; injection h2 with h2; cases h2; exact ih h3
theorem qxg{σ ε:Type}{step:σ->Option (σ⊕ε)}{x:σ}{e:ε}(h:Iter step x e):iter step x=some e:=by
 have hx:∃e,Iter step x e:=⟨e,h⟩;unfold iter;split
 ·rename_i e' he; rw[(qut he).det h]
 ·rw[dif_pos hx,hx.choose_spec.det h]
theorem qaJ{σ ε:Type}{step:σ->Option (σ⊕ε)}{x y:σ}(h:step x=some (.inl y)):iter step x=iter step y:=by
 cases hy:iter step y with
 | some e=>exact qxg (.next h (qsb hy))
 | none=>
  cases hx:iter step x with
  | none=>rfl
  | some e=>
   cases qsb hx with
   | done h1=>rw[h] at h1; injection h1 with h1; cases h1
   | next h1 h2=>rw[h] at h1; injection h1 with h1; cases h1; rw[qxg h2] at hy; cases hy
theorem qas{σ ε:Type}{step:σ->Option (σ⊕ε)}{x:σ}{e:ε}(h:step x=some (.inr e)):iter step x=some e:=qxg (.done h)
abbrev Ev:=(A:Type)->St->St->(Ex->St->Option A)->Option A
def qAK(pins:List Nat)(alts:List Alt)(body:Ev):Ev:=fun _ κ st k=>
 (body (AT alts) (κ.sub st) (hide (alts.map (·.j)) (κ.sub st)) (fun e su=>qkE pins (κ.sub st) alts e su)).bind fun ans=>qo3 st alts ans k
def fzEv(ts:List Nat)(body:Ev):Ev:=fun A κ st k=>body A κ (st.freezeL (ts.flatMap (qyc st))) k
def fvEv(ts:List (Nat×Ty))(body:Ev):Ev:=fun A κ st k=>body A κ (St.freezeVs κ ts st) k
def qgF(pins:List Nat):List Wrap->Ev->Ev
 | [],body=>body
 | .fz ts::r,body=>fzEv ts (qgF pins r body)
 | .fv ts::r,body=>fvEv ts (qgF pins r body)
 | .join alts::r,body=>qAK pins alts (qgF pins r body)
def loopK(pins:List Nat)(κ1:St)(j:J)(alts:List Alt):Ex->St->Option (CT j.ct⊕AT alts)
 | .n,su=>match j.packC pins κ1 su with
  | some x=>some (.inl x)
  | none=>none
 | e,su=>match qkE pins κ1 alts e su with
  | some x=>some (.inr x)
  | none=>none
noncomputable def qv2(pins:List Nat)(j:J)(alts:List Alt)(body:Ev):Ev:=fun _ κ st k=>
 match j.packC pins (κ.sub st) (hide [j] (κ.sub st)) with
 | none=>none
 | some x0=>(iter (fun x=>body (CT j.ct⊕AT alts) (κ.sub st) (j.put .kr .kc x) (loopK pins (κ.sub st) j alts)) x0).bind fun ans=>qo3 st alts ans k
def unrEv(body:Ev):Nat->Ev
 | 0=>fun _ _ _ _=>none
 | n+1=>fun A κ st k=>body A κ st fun e su=>match e with
  | .n=>unrEv body n A κ su k
  | .x id=>k (.x id) su
  | .r=>k .r su
def seqK{A:Type}(k2:St->Option A)(k:Ex->St->Option A):Ex->St->Option A
 | .n,su=>k2 su
 | e,su=>k e su
def qDM{A:Type}(id:Nat)(k:Ex->St->Option A):Ex->St->Option A
 | .x id',su=>bif Nat.beq id' id then k .n su else k (.x id') su
 | e,su=>k e su
open Classical in
noncomputable def bothO{A:Type}(a b:Option A):Option A:=if a=b then a else none
theorem qzh{A:Type}{a b:Option A}{v:A}(h:bothO a b=some v):a=some v/\b=some v:=by
 unfold bothO at h;split at h
 ·rename_i e; subst e; exact⟨h,h⟩
 ·cases h
noncomputable def ev(C:Cx)(pins:List Nat):Code->Plan->Ev
 | .skip,p=>qgF pins p.ws fun _ _ st k=>k .n st
 | .label _,p=>qgF pins p.ws fun _ _ st k=>k .n st
 | .ret,p=>qgF pins p.ws fun _ _ st k=>k .r st
 | .exit id,p=>qgF pins p.ws fun _ _ st k=>k (.x id) st
 | .region _ ⟨ops⟩ draw,p=>qgF pins p.ws fun _ κ st k=>evOps C draw ops ops [] st (κ.sub st) (k .n)
 | .seq a b,p=>qgF pins p.ws fun A κ st k=>ev C pins a p.l A κ st (seqK (fun su=>ev C pins b p.r A κ su k) k)
 | .cond c a b,p=>qgF pins p.ws fun A κ st k=>match(κ.sub st).ev c with
  | .nilq n=>bif Nat.beq n 0 then bothO (ev C pins a p.l A κ st k) (ev C pins b p.r A κ st k) else ev C pins b p.r A κ st k
  | s=>match s.bool? with
   | some t=>bif t then ev C pins a p.l A κ st k else ev C pins b p.r A κ st k
   | none=>none
 | .block id b,p=>qgF pins p.ws fun A κ st k=>ev C pins b p.l A κ st (qDM id k)
 | .scope b,p=>qgF pins p.ws fun A κ st k=>ev C pins b p.l A κ st k
 | .loop (.seq x y),p=>qgF pins p.ws (match p.lp with
  | some (j,alts)=>qv2 pins j alts (qgF pins p.l.ws fun A κ st k=>ev C pins x p.l.l A κ st (seqK (fun su=>ev C pins y p.l.r A κ su k) k))
  | none=>unrEv (qgF pins p.l.ws fun A κ st k=>ev C pins x p.l.l A κ st (seqK (fun su=>ev C pins y p.l.r A κ su k) k)) 4)
 | .loop b,p=>qgF pins p.ws (match p.lp with
  | some (j,alts)=>qv2 pins j alts (ev C pins b p.l)
  | none=>unrEv (ev C pins b p.l) 4)
 | _,_=>fun _ _ _ _=>none
section
variable {P:Program} {w0:World} {M:Mod} {F0:Nat->Prop} {C:Cx} {pins:List Nat}
def Wk(P:Program)(w0:World)(M:Mod)(N:Nat)(F0:Nat->Prop)(κ st:St)(c:Code)(Q:Ex->St->Prop):Prop:=
 ∀a w,Rel P w0 M N F0 (κ.sub st) a w->c.wp P (fun e a' w'=>∃x su,e=Ex.to x/\Q x su/\Rel P w0 M N F0 (κ.sub su) a' w') a w
theorem Wk.mono{N:Nat}{κ st:St}{c:Code}{Q Q':Ex->St->Prop}(h:Wk P w0 M N F0 κ st c Q)(hq:∀x su,Q x su->Q' x su):Wk P w0 M N F0 κ st c Q':=
 fun a w hr=>zT1 (fun _ _ _ ⟨x,su,h1,h2,h3⟩=>⟨x,su,h1,hq x su h2,h3⟩) (h a w hr)
def Sound(P:Program)(w0:World)(M:Mod)(N:Nat)(F0:Nat->Prop)(E:Ev)(c:Code):Prop:=
 ∀(A:Type) (κ st:St) (k:Ex->St->Option A) (v:A),E A κ st k=some v->Wk P w0 M N F0 κ st c (fun x su=>k x su=some v)
theorem qoq{N:Nat}{κ st:St}{A:Type}(hpins:∀b v,M.pin b=some v->b∈pins){k:Ex->St->Option A}{v:A}{a:Act}{w:World}:∀ {alts:List Alt} {e:Ex} {su:St} {ans:AT alts},qkE pins (κ.sub st) alts e su=some ans->qo3 st alts ans k=some v->
  Rel P w0 M N F0 ((κ.sub st).sub su) a w->∃su',k e su'=some v/\Rel P w0 M N F0 (κ.sub su') a w
 | [],_,_,ans,_,_,_=>nomatch ans
 | [x],e,su,ans,h,h2,hr=>by
  have h':(bif x.e.eqb e then x.j.packC pins (κ.sub st) su else none)=some ans:=h;clear h;cases he:x.e.eqb e with
  | false=>rw[he] at h'; cases h'
  | true=>
   rw[he] at h'; simp only[zb] at h';have:=Ex.eqb_eq he;subst this;exact⟨_,h2,qo2 hpins h' (fun _=>rfl) (fun _ _=>rfl) hr⟩
 | x::y::r,e,su,ans,h,h2,hr=>by
  simp only[qkE] at h;cases he:x.e.eqb e with
  | false=>
   rw[he] at h; simp only[zc] at h;split at h
   ·rename_i z hz;cases h
    exact qoq hpins hz h2 hr
   ·cases h
  | true=>
   rw[he] at h; simp only[zb] at h;have:=Ex.eqb_eq he;subst this;split at h
   ·rename_i z hz;cases h
    exact⟨_,h2,qo2 hpins hz (fun _=>rfl) (fun _ _=>rfl) hr⟩
   ·cases h
theorem qyd{N:Nat}{κ st:St}{js:List J}{a:Act}{w:World}(h:Rel P w0 M N F0 (κ.sub st) a w):Rel P w0 M N F0 ((κ.sub st).sub (hide js (κ.sub st))) a w:=by
 obtain⟨F,U,h,hF⟩:=h;generalize κ.sub st=s at h ⊢;refine⟨F,U,⟨h.fr,⟨h.mem.dom,?_,h.mem.arr,h.mem.sep,h.mem.own,h.mem.fb,h.mem.one,h.mem.glob⟩,h.lo,fun t=>?_,h.sz,h.df,h.pin⟩,hF⟩
 ·intro b ty k hv;obtain⟨g,arr,q1,q2,q3,q4⟩:=h.mem.var b ty k hv;refine⟨g,arr,q1,q2,q3,fun j x hj=>⟨?_,(q4 j x hj).2⟩⟩
  show Den P F w U ((bif js.any (fun q=>keptV q.vars b j) then SV.kc b j else s.c b j).res s) x
  cases js.any (fun q=>keptV q.vars b j) with
  | true=>exact(q4 j x hj).1
  | false=>simp only[zc]; rw[(q4 j x hj).1.res]; exact(q4 j x hj).1
 ·show Den P F w U ((bif js.any (fun q=>keptR q.regs t) then SV.kr t else s.r t).res s) _
  cases js.any (fun q=>keptR q.regs t) with
  | true=>exact h.regs t
  | false=>simp only[zc]; rw[(h.regs t).res]; exact h.regs t
theorem qAL{N:Nat}{alts:List Alt}{body:Ev}{c:Code}(hpins:∀b v,M.pin b=some v->b∈pins)(h:Sound P w0 M N F0 body c):Sound P w0 M N F0 (qAK pins alts body) c:=by
 intro A κ st k v hv a w hr;unfold qAK at hv;cases hb:body (AT alts) (κ.sub st) (hide (alts.map (·.j)) (κ.sub st)) (fun e su=>qkE pins (κ.sub st) alts e su) with
 | none=>rw[hb] at hv; cases hv
 | some ans=>
  rw[hb] at hv;refine zT1 ?_ (h _ _ _ _ _ hb a w (qyd hr))
  rintro e a' w' ⟨x,su,rfl,h2,h3⟩
  obtain⟨su',q1,q2⟩:=qoq hpins h2 hv h3;exact⟨x,su',rfl,q1,q2⟩
theorem qEr{N:Nat}{ts:List Nat}{body:Ev}{c:Code}(h:Sound P w0 M N F0 body c):Sound P w0 M N F0 (fzEv ts body) c:=
 fun A κ st k v hv a w hr=>h A κ _ k v hv a w (LeS.freezeL _ a w hr)
theorem qEs{N:Nat}{ts:List (Nat×Ty)}{body:Ev}{c:Code}(h:Sound P w0 M N F0 body c):Sound P w0 M N F0 (fvEv ts body) c:=
 fun A κ st k v hv a w hr=>h A κ _ k v hv a w (LeS.freezeVs _ a w hr)
theorem qch{N:Nat}{c:Code}(hpins:∀b v,M.pin b=some v->b∈pins):∀(ws:List Wrap) {body:Ev},Sound P w0 M N F0 body c->Sound P w0 M N F0 (qgF pins ws body) c
 | [],_,h=>h
 | .fz ts::r,_,h=>qEr (qch hpins r h)
 | .fv ts::r,_,h=>qEs (qch hpins r h)
 | .join alts::r,_,h=>qAL hpins (qch hpins r h)
theorem qv3{N:Nat}{j:J}{alts:List Alt}{body:Ev}{c:Code}(hpins:∀b v,M.pin b=some v->b∈pins)(h:Sound P w0 M N F0 body c):Sound P w0 M N F0 (qv2 pins j alts body) (.loop c):=by
 intro A κ st k v hv a w hr;unfold qv2 at hv;split at hv
 ·cases hv
 ·rename_i x0 hx0;cases hi:iter (fun x=>body (CT j.ct⊕AT alts) (κ.sub st) (j.put .kr .kc x) (loopK pins (κ.sub st) j alts)) x0 with
  | none=>rw[hi] at hv; cases hv
  | some ans=>
   rw[hi] at hv;have hit:=qsb hi;have hr0:Rel P w0 M N F0 ((κ.sub st).sub (j.put .kr .kc x0)) a w:=qo2 (kr:=.kr) (kc:=.kc) hpins hx0 (fun _=>rfl) (fun _ _=>rfl) (qyd hr)
   intro b kk cs;have key:∀x ans,Iter (fun x=>body (CT j.ct⊕AT alts) (κ.sub st) (j.put .kr .kc x) (loopK pins (κ.sub st) j alts)) x ans->qo3 st alts ans k=some v->∀a w,Rel P w0 M N F0 ((κ.sub st).sub (j.put .kr .kc x)) a w->
     ∃e a' w',(∃x su,e=Ex.to x/\k x su=some v/\Rel P w0 M N F0 (κ.sub su) a' w')/\Arrives P (lone (b.at a (.code c::.inLoop c::kk)) cs w) b kk cs e a' w':=by
    intro x ans' hit;induction hit with
    | @done x0' e0 h1=>
     intro hv' a w hrel;obtain⟨e,a₁,w₁,⟨x,su,rfl,hq,hr'⟩,harr⟩:=h _ _ _ _ _ h1 a w hrel b (.inLoop c::kk) cs;have hp:x≠.n/\qkE pins (κ.sub st) alts x su=some e0:=by
      unfold loopK at hq;split at hq
      ·split at hq
       ·injection hq with hq; cases hq
       ·cases hq
      ·rename_i hne;split at hq
       ·rename_i z hz;injection hq with hq; cases hq
        exact⟨fun e=>hne e,hz⟩
       ·cases hq
     obtain⟨su',q1,q2⟩:=qoq hpins hp.2 hv' hr';cases x with
     | n=>exact absurd rfl hp.1
     | x id=>exact⟨_,a₁,w₁,⟨.x id,su',rfl,q1,q2⟩,.pass (x:=.inLoop c) rfl (fun _ _=>.inl (by simp[Ex.to])) harr⟩
     | r=>exact⟨_,a₁,w₁,⟨.r,su',rfl,q1,q2⟩,.pass (x:=.inLoop c) rfl (fun _ _=>.inl (by simp[Ex.to])) harr⟩
    | @next x1 y1 e1 h1 _ ih=>
     intro hv' a w hrel;obtain⟨e,a₁,w₁,⟨x,su,rfl,hq,hr'⟩,harr⟩:=h _ _ _ _ _ h1 a w hrel b (.inLoop c::kk) cs;have hp:x=.n/\j.packC pins (κ.sub st) su=some y1:=by
      unfold loopK at hq;split at hq
      ·split at hq
       ·rename_i z hz;injection hq with hq; cases hq
        exact⟨rfl,hz⟩
       ·cases hq
      ·split at hq
       ·injection hq with hq; cases hq
       ·cases hq
     obtain⟨rfl,hp2⟩:=hp;obtain⟨e₂,a₂,w₂,hq₂,harr₂⟩:=ih hv' a₁ w₁ (qo2 (kr:=.kr) (kc:=.kc) hpins hp2 (fun _=>rfl) (fun _ _=>rfl) hr')
     exact⟨e₂,a₂,w₂,hq₂,.of_steps (Steps.trans harr (.one step_inLoop)) harr₂⟩
   obtain⟨e,a',w',hq,harr⟩:=key x0 ans hit hv a w hr0;exact⟨e,a',w',hq,.of_steps (.one step_loop) harr⟩
theorem qye{N:Nat}{body:Ev}{c:Code}(h:Sound P w0 M N F0 body c)(n:Nat):Sound P w0 M N F0 (unrEv body n) (.loop c):=by
 have key:∀(n:Nat) (A:Type) (κ st:St) (k:Ex->St->Option A) (v:A),unrEv body n A κ st k=some v->∀a w,Rel P w0 M N F0 (κ.sub st) a w->∀b kk cs,
   ∃e a' w',(∃x su,e=Ex.to x/\k x su=some v/\Rel P w0 M N F0 (κ.sub su) a' w')/\Arrives P (lone (b.at a (.code c::.inLoop c::kk)) cs w) b kk cs e a' w':=by
  intro n;induction n with
  | zero=>intro A κ st k v hv; cases hv
  | succ n ih=>
   intro A κ st k v hv a w hr b kk cs;obtain⟨e,a₁,w₁,⟨x,su,rfl,hq,hr'⟩,harr⟩:=h A κ st _ v hv a w hr b (.inLoop c::kk) cs;cases x with
   | n=>
    obtain⟨e₂,a₂,w₂,hq₂,harr₂⟩:=ih A κ su k v hq a₁ w₁ hr' b kk cs;exact⟨e₂,a₂,w₂,hq₂,.of_steps (Steps.trans harr (.one step_inLoop)) harr₂⟩
   | x id=>exact⟨_,a₁,w₁,⟨.x id,su,rfl,hq,hr'⟩,.pass (x:=.inLoop c) rfl (fun _ _=>.inl (by simp[Ex.to])) harr⟩
   | r=>exact⟨_,a₁,w₁,⟨.r,su,rfl,hq,hr'⟩,.pass (x:=.inLoop c) rfl (fun _ _=>.inl (by simp[Ex.to])) harr⟩
 intro A κ st k v hv a w hr b kk cs;obtain⟨e,a',w',hq,harr⟩:=key n A κ st k v hv a w hr b kk cs;exact⟨e,a',w',hq,.of_steps (.one step_loop) harr⟩
structure SubR(κ su sr:St):Prop where
 r:∀t,su.r t=sr.r t\/(su.r t).res κ=sr.r t
 c:∀b o,su.c b o=sr.c b o\/(su.c b o).res κ=sr.c b o
 v:su.v=sr.v
 a:su.a=sr.a
 d:su.d=sr.d
theorem SubR.put{κ su sr:St}(h:SubR κ su sr)(x:Wr):SubR κ (su.put x) (sr.put x):=by
 cases x with
 | r t s=>
  refine⟨fun t'=>?_,h.c,h.v,h.a,h.d⟩
  show(bif Nat.beq t' t then s else su.r t')=(bif Nat.beq t' t then s else sr.r t')\/SV.res κ (bif Nat.beq t' t then s else su.r t')=(bif Nat.beq t' t then s else sr.r t');cases Nat.beq t' t with
  | true=>exact .inl rfl
  | false=>exact h.r t'
 | c b o s=>
  refine⟨h.r,fun b' o'=>?_,h.v,h.a,h.d⟩
  show(bif Nat.beq b' b&&Nat.beq o' o then s else su.c b' o')=(bif Nat.beq b' b&&Nat.beq o' o then s else sr.c b' o')\/SV.res κ (bif Nat.beq b' b&&Nat.beq o' o then s else su.c b' o')=(bif Nat.beq b' b&&Nat.beq o' o then s else sr.c b' o');cases(Nat.beq b' b&&Nat.beq o' o) with
  | true=>exact .inl rfl
  | false=>exact h.c b' o'
 | v b i=>exact⟨h.r,h.c,by simp only[St.put,h.v],h.a,h.d⟩
 | a b i=>exact⟨h.r,h.c,h.v,by simp only[St.put,h.a],h.d⟩
 | d b=>exact⟨h.r,h.c,h.v,h.a,by simp only[St.put,h.d]⟩
 | e b k y=>exact⟨h.r,h.c,h.v,by simp only[St.put,h.a],h.d⟩
theorem SubR.rel{N:Nat}{κ su sr:St}(hs:SubR κ su sr){a:Act}{w:World}(h:Rel P w0 M N F0 sr a w):Rel P w0 M N F0 (κ.sub su) a w:=by
 obtain⟨F,U,h,hF⟩:=h;have hp:∀b,(κ.sub su).present b↔sr.present b:=fun b=>by show(su.v b≠none\/su.a b≠none)↔_; rw[hs.v,hs.a]; exact Iff.rfl
 refine⟨F,U,⟨h.fr,⟨fun b hb=>h.mem.dom b (by rw[<-hs.d]; exact hb),?_,fun b A hA=>h.mem.arr b A (by rw[<-hs.a]; exact hA),fun b b' v v' g p p'=>h.mem.sep b b' v v' g ((hp b).1 p) ((hp b').1 p'),fun b v g p=>h.mem.own b v g ((hp b).1 p),h.mem.fb,h.mem.one,h.mem.glob⟩,fun b v g p=>h.lo b v g ((hp b).1 p),fun t=>?_,h.sz,h.df,h.pin⟩,hF⟩
 ·intro b ty k hv;obtain⟨g,arr,q1,q2,q3,q4⟩:=h.mem.var b ty k (by rw[<-hs.v]; exact hv)
  refine⟨g,arr,q1,q2,q3,fun j x hj=>⟨?_,(q4 j x hj).2⟩⟩
  show Den P F w U ((su.c b j).res κ) x;rcases hs.c b j with e | e
  ·rw[e,(q4 j x hj).1.res]; exact(q4 j x hj).1
  ·rw[e]; exact(q4 j x hj).1
 ·show Den P F w U ((su.r t).res κ) _;rcases hs.r t with e | e
  ·rw[e,(h.regs t).res]; exact h.regs t
  ·rw[e]; exact h.regs t
theorem qdO(hpins:∀b v,M.pin b=some v->b∈pins){b:Code}{p:Plan}(hb:∀q,Sound P w0 M C.N F0 (ev C pins b q) b)
  (he:ev C pins (.loop b) p=qgF pins p.ws (match p.lp with | some (j,alts)=>qv2 pins j alts (ev C pins b p.l) | none=>unrEv (ev C pins b p.l) 4)):Sound P w0 M C.N F0 (ev C pins (.loop b) p) (.loop b):=by
 rw[he];refine qch hpins _ ?_
 cases hp:p.lp with
 | none=>exact qye (hb p.l) 4
 | some q=>obtain⟨j,alts⟩:=q; exact qv3 hpins (hb p.l)
theorem ev_ok(hΓ:Tys P C.Γ)(hfs:CxOk P C)(hm:P.follows .mixedOrders=true)(hpins:∀b v,M.pin b=some v->b∈pins):∀(c:Code) (p:Plan),Sound P w0 M C.N F0 (ev C pins c p) c
 | .skip,p=>qch hpins _ fun A κ st k v hv a w hr=>wp_skip ⟨.n,st,rfl,hv,hr⟩
 | .ret,p=>qch hpins _ fun A κ st k v hv a w hr=>wp_ret ⟨.r,st,rfl,hv,hr⟩
 | .exit id,p=>qch hpins _ fun A κ st k v hv a w hr=>wp_exit ⟨.x id,st,rfl,hv,hr⟩
 | .region id ⟨ops⟩ draw,p=>qch hpins _ fun A κ st k v hv=>by
  have hg:=qo1 (P:=P) (w0:=w0) (M:=M) (F0:=F0) (st0:=κ.sub st) hΓ hfs (ops:=ops.toArray) rfl (R:=SubR κ) (fun su sr x h=>h.put x) ops [] st (κ.sub st) ⟨fun t=>.inr rfl,fun b o=>.inr rfl,rfl,rfl,rfl⟩ hv
  have hw:W P w0 M C.N F0 (.region id ops.toArray draw) (κ.sub st) (fun e sr=>e=.normal/\∃su',SubR κ su' sr/\k .n su'=some v):=by
   have hg':G P w0 M C.N F0 draw ops.toArray (κ.sub st) [] ops (κ.sub st) ((fun e sr=>e=Exit.normal/\∃su',SubR κ su' sr/\k .n su'=some v) .normal):=by
    intro L h1 h2 h3 h4 a w h5;have:=hg L h1 h2 h3 h4 a w h5;have hmono:∀(e:Exit) (a:Act) (w:World),QK P w0 M C.N F0 (fun sr'=>∃su',SubR κ su' sr'/\k .n su'=some v) e a w->QK P w0 M C.N F0 (fun sr=>Exit.normal=Exit.normal/\∃su',SubR κ su' sr/\k .n su'=some v) e a w:=by
     intro e a w hq;cases e <;> first | exact hq.elim | (obtain⟨st',h1,h2⟩:=hq; exact⟨st',⟨rfl,h1⟩,h2⟩)
    have hq:QK P w0 M C.N F0 (fun sr'=>∃su',SubR κ su' sr'/\k .n su'=some v)=QK P w0 M C.N F0 (fun sr=>Exit.normal=Exit.normal/\∃su',SubR κ su' sr/\k .n su'=some v):=by
     congr 1; funext sr; simp
    rw[<-hq]; exact this
   cases draw with
   | false=>exact W.region hg'
   | true=>exact W.drawn hm hg'
  intro a w hr;refine zT1 ?_ (hw a w hr)
  rintro e a' w' ⟨sr,⟨rfl,su,h1,h2⟩,h3⟩
  exact⟨.n,su,rfl,h2,h1.rel h3⟩
 | .seq x y,p=>qch hpins _ fun A κ st k v hv a w hr=>by
  refine wp_seq (zT1 ?_ (ev_ok hΓ hfs hm hpins x p.l A κ st _ v hv a w hr))
  rintro e a' w' ⟨x',su,rfl,h1,h2⟩
  cases x' with
  | n=>exact ev_ok hΓ hfs hm hpins y p.r A κ su k v h1 a' w' h2
  | x id=>exact⟨.x id,su,rfl,h1,h2⟩
  | r=>exact⟨.r,su,rfl,h1,h2⟩
 | .cond c x y,p=>qch hpins _ fun A κ st k v hv a w hr=>by
  split at hv
  ·rename_i n hc;obtain⟨F,U,h,hF⟩:=id hr;have hd:=h.evx (st0:=κ.sub st) (rd:=qaa c) (fun κ' _=>agree.refl _ κ') (fun _ h=>h) (x:=c)
   rw[hc] at hd;generalize hu:a.eval c=u at hd;cases hd with
   | nilq hb0=>
    rename_i b;cases hn:Nat.beq n 0 with
    | true=>
     rw[hn] at hv;obtain⟨v1,v2⟩:=qzh hv;refine wp_cond_split hu (fun e=>?_) (fun e=>?_)
     ·exact ev_ok hΓ hfs hm hpins x p.l A κ st k v v1 a w hr
     ·exact ev_ok hΓ hfs hm hpins y p.r A κ st k v v2 a w hr
    | false=>
     rw[hn] at hv;refine wp_cond_split hu (fun e=>?_) (fun e=>?_)
     ·rw[hb0 e] at hn; cases hn
     ·exact ev_ok hΓ hfs hm hpins y p.r A κ st k v hv a w hr
  rename_i s _;split at hv
  ·rename_i t ht;obtain⟨F,U,h,hF⟩:=id hr;have hb:a.eval c=.bool t:=(h.evx (st0:=κ.sub st) (rd:=qaa c) (fun κ' _=>agree.refl _ κ') (fun _ h=>h)).bool ht
   refine wp_cond_split hb (fun e=>?_) (fun e=>?_)
   ·subst e; exact ev_ok hΓ hfs hm hpins x p.l A κ st k v hv a w hr
   ·subst e; exact ev_ok hΓ hfs hm hpins y p.r A κ st k v hv a w hr
  ·cases hv
 | .block id b,p=>qch hpins _ fun A κ st k v hv a w hr=>by
  refine wp_block (zT1 ?_ (ev_ok hΓ hfs hm hpins b p.l A κ st _ v hv a w hr))
  rintro e a' w' ⟨x,su,rfl,h1,h2⟩
  cases x with
  | n=>exact⟨.n,su,rfl,h1,h2⟩
  | r=>exact⟨.r,su,rfl,h1,h2⟩
  | x id'=>
   simp only[qDM] at h1;by_cases e:id'=id
   ·subst e;simp only[z33,zb] at h1;simp only[Ex.to,Exit.inBlock,if_true];exact⟨.n,su,rfl,h1,h2⟩
   ·rw[bq e] at h1; simp only[zc] at h1;simp only[Ex.to,Exit.inBlock,if_neg e];exact⟨.x id',su,rfl,h1,h2⟩
 | .scope b,p=>qch hpins _ fun A κ st k v hv a w hr=>by
  refine wp_scope_straight (zT1 ?_ (ev_ok hΓ hfs hm hpins b p.l A κ st _ v hv a w hr))
  rintro e a' w' ⟨x,su,rfl,h1,h2⟩
  cases x <;> exact⟨_,su,rfl,h1,h2⟩
 | .loop (.seq x y),p=>qch hpins _ (by
  cases hp:p.lp with
  | none=>
   refine qye (qch hpins _ fun A κ st k v hv a w hr=>?_) 4
   refine wp_seq (zT1 ?_ (ev_ok hΓ hfs hm hpins x p.l.l A κ st _ v hv a w hr))
   rintro e a' w' ⟨x',su,rfl,h1,h2⟩
   cases x' with
   | n=>exact ev_ok hΓ hfs hm hpins y p.l.r A κ su k v h1 a' w' h2
   | x id=>exact⟨.x id,su,rfl,h1,h2⟩
   | r=>exact⟨.r,su,rfl,h1,h2⟩
  | some q=>
   obtain⟨j,alts⟩:=q;refine qv3 hpins (qch hpins _ fun A κ st k v hv a w hr=>?_)
   refine wp_seq (zT1 ?_ (ev_ok hΓ hfs hm hpins x p.l.l A κ st _ v hv a w hr))
   rintro e a' w' ⟨x',su,rfl,h1,h2⟩
   cases x' with
   | n=>exact ev_ok hΓ hfs hm hpins y p.l.r A κ su k v h1 a' w' h2
   | x id=>exact⟨.x id,su,rfl,h1,h2⟩
   | r=>exact⟨.r,su,rfl,h1,h2⟩)
 | .loop .skip,p=>qdO hpins (fun q=>ev_ok hΓ hfs hm hpins .skip q) rfl
 | .loop .ret,p=>qdO hpins (fun q=>ev_ok hΓ hfs hm hpins .ret q) rfl
 | .loop (.exit i),p=>qdO hpins (fun q=>ev_ok hΓ hfs hm hpins (.exit i) q) rfl
 | .loop (.region i o d),p=>qdO hpins (fun q=>ev_ok hΓ hfs hm hpins (.region i o d) q) rfl
 | .loop (.cond c x y),p=>qdO hpins (fun q=>ev_ok hΓ hfs hm hpins (.cond c x y) q) rfl
 | .loop (.block i x),p=>qdO hpins (fun q=>ev_ok hΓ hfs hm hpins (.block i x) q) rfl
 | .loop (.scope x),p=>qdO hpins (fun q=>ev_ok hΓ hfs hm hpins (.scope x) q) rfl
 | .loop (.loop x),p=>qdO hpins (fun q=>ev_ok hΓ hfs hm hpins (.loop x) q) rfl
 | .loop (.rangeFunc f ps x y),p=>qdO hpins (fun q=>ev_ok hΓ hfs hm hpins (.rangeFunc f ps x y) q) rfl
 | .loop (.label l),p=>qdO hpins (fun q=>ev_ok hΓ hfs hm hpins (.label l) q) rfl
 | .loop (.goto l),p=>qdO hpins (fun q=>ev_ok hΓ hfs hm hpins (.goto l) q) rfl
 | .loop (.refuse w),p=>qdO hpins (fun q=>ev_ok hΓ hfs hm hpins (.refuse w) q) rfl
 | .rangeFunc ..,_=>fun A κ st k v hv=>by cases hv
 | .label _,p=>qch hpins _ fun A κ st k v hv a w hr=>wp_label ⟨.n,st,rfl,hv,hr⟩
 | .goto _,_=>fun A κ st k v hv=>by cases hv
 | .refuse _,_=>fun A κ st k v hv=>by cases hv
end
def qv4(Γ:List TI)(su:St):ResultVar->Option SV
 | .tmp t=>some (su.r t)
 | .cell t ty=>match look Γ ty,su.r t with
  | some i,.ptr b o=>match su.v b with
   | some (_,k)=>bif qbW i.desc then(bif Nat.ble (o+i.size) k then some (.agg (qbw su b o i.size)) else none) else(bif Nat.blt o k then some (su.c b o) else none)
   | none=>none
  | some _,.ael _ _ _ _=>match qtu Γ su ty (.tmp t) with
   | some r=>some r.s
   | none=>none
  | _,_=>none
def resLs(Γ:List TI)(su:St):List ResultVar->Option (List SV)
 | []=>some []
 | r::l=>match qv4 Γ su r,resLs Γ su l with
  | some s,some t=>some (s::t)
  | _,_=>none
def retC(C:Cx)(pins:List Nat)(jo:J)(rs:List ResultVar)(su:St):Option (CT jo.ct):=
 match resLs C.Γ (κ0.sub su) rs with
 | some ss=>jo.packC pins κ0 { κ0.sub su with r:=nthS ss }
 | none=>none
def retK(C:Cx)(pins:List Nat)(jo:J)(rs:List ResultVar):Ex->St->Option (CT jo.ct)
 | .x _,_=>none
 | _,su=>retC C pins jo rs su
def qlS(ji jo:J):List Nat:=ji.names.filter fun b=>memN jo.names b
noncomputable def evFun(C:Cx)(ji jo:J)(rs:List ResultVar)(c:Code)(p:Plan)(x:CT ji.ct):Option (CT jo.ct):=
 ev C (qlS ji jo) c p (CT jo.ct) κ0 (ji.put (fun _=>.any) (fun _ _=>.any) x) (retK C (qlS ji jo) jo rs)
section
variable {P:Program} {C:Cx}
theorem qzi(hΓ:Tys P C.Γ){w0:World}{M:Mod}{N:Nat}{F:Nat->Prop}{U:Env}{a:Act}{w:World}{su:St}(h:Rel' P w0 M N F U su a w){r:ResultVar}{s:SV}(hs:qv4 C.Γ su r=some s):
  ∃v,Den P F w U s v/\(match r with | .tmp t=>(pure (a.tmps.getD t undef):Sem Value) | .cell t ty=>do loadVar ty (<- asAddr (a.tmps.getD t undef))).run P w=.ok v w:=by
 cases r with
 | tmp t=>simp only[qv4] at hs; cases hs; exact⟨_,h.regs t,rfl⟩
 | cell t ty=>
  have hl:∃r,qtu C.Γ su ty (.tmp t)=some r/\r.s=s:=by
   simp only[qv4] at hs;split at hs
   ·rename_i i b o hi hr;unfold qtu;rw[hi,show su.ev (.tmp t)=su.r t from rfl,hr]
    split at hs
    ·rename_i tyb k hv;simp only[hv];cases ha:qbW i.desc with
     | true=>
      rw[ha] at hs; simp only[zb] at hs ⊢;cases hb:Nat.ble (o+i.size) k with
      | false=>rw[hb] at hs; cases hs
      | true=>rw[hb] at hs; cases hs; exact⟨_,rfl,rfl⟩
     | false=>
      rw[ha] at hs; simp only[zc] at hs ⊢;cases hb:Nat.blt o k with
      | false=>rw[hb] at hs; cases hs
      | true=>rw[hb] at hs; cases hs; exact⟨_,rfl,rfl⟩
    ·cases hs
   ·split at hs
    ·rename_i r hr; cases hs; exact⟨r,hr,rfl⟩
    ·cases hs
   ·cases hs
  obtain⟨r,hl,hrs⟩:=hl;obtain⟨u,h1,h2⟩:=qvA (M:=M) (w0:=w0) (N:=N) (rty:=0) hΓ hl su (fun κ _=>agree.refl _ κ) F U a w h none "" #[] none
  rw[hrs] at h2;refine⟨u,h2,?_⟩
  have h3:(Instr.loadAt ty (a.tmps.getD t undef)).run P w=.ok u w:=by
   have h4:(execOp a.eval ⟨none,.load ty (.tmp t),0,"",#[],none⟩).run P w=((Instr.loadAt ty (a.tmps.getD t undef)).run P w).andThen (fun v w'=>.ok (.value v) w'):=by
    simp only[execOp,zl,zn]; rfl
   rw[h4] at h1;cases hh:(Instr.loadAt ty (a.tmps.getD t undef)).run P w with
   | ok v' w'=>rw[hh] at h1; simp only[zh] at h1; injection h1 with e1 e2; injection e1 with e1; subst e1 e2; rfl
   | halt x w'=>rw[hh] at h1; cases h1
  have hr':(∃b o,su.r t=.ptr b o)\/∃b k i o,su.r t=.ael b k i o:=by
   simp only[qv4] at hs;split at hs
   ·rename_i hr; exact .inl ⟨_,_,hr⟩
   ·rename_i hr; exact .inr ⟨_,_,_,_,hr⟩
   ·cases hs
  have hd:=h.regs t;rcases hr' with⟨b,o,hr⟩ | ⟨b,k,i,o,hr⟩
  rotate_left
  ·rw[hr] at hd;generalize hx:a.tmps.getD t undef=x at hd h3;cases hd with
   | ael hρ hi=>
    simp only[Instr.loadAt,Instr.sureAddr,zl,zn,zh] at h3;simp only[hx,asAddr,zl,zn,zh,h3]
  rw[hr] at hd;generalize hx:a.tmps.getD t undef=x at hd h3;cases hd with
  | ptr hρ=>
   simp only[Instr.loadAt,Instr.sureAddr,zl,zn,zh] at h3;simp only[hx,asAddr,zl,zn,zh,h3]
theorem qv5(hΓ:Tys P C.Γ){w0:World}{M:Mod}{N:Nat}{F:Nat->Prop}{U:Env}{a:Act}{w:World}{su:St}(h:Rel' P w0 M N F U su a w):∀ {rs:List ResultVar} {ss:List SV},resLs C.Γ su rs=some ss->
  ∃vs:List Value,ss.length=vs.length/\vs.length=rs.length/\(∀(i:Nat) (s:SV) (v:Value),ss[i]? = some s->vs[i]? = some v->Den P F w U s v)∧
   (rs.mapM (m:=Sem) fun | .tmp t=>pure (a.tmps.getD t undef) | .cell t ty=>do loadVar ty (<- asAddr (a.tmps.getD t undef))).run P w=.ok vs w
 | [],ss,hs=>by
  simp only[resLs] at hs; cases hs
  exact⟨[],rfl,rfl,fun i s v hs=>by simp at hs,rfl⟩
 | r::l,ss,hs=>by
  simp only[resLs] at hs;split at hs
  ·rename_i s t h0 h1;cases hs
   obtain⟨vs,e1,e0,e2,e3⟩:=qv5 hΓ h h1;obtain⟨v,hv,hr⟩:=qzi hΓ h h0;refine⟨v::vs,by simp[e1],by simp[e0],fun i s' v' hs' hv'=>?_,?_⟩
   ·cases i with
    | zero=>simp at hs' hv'; subst hs' hv'; exact hv
    | succ i=>exact e2 i s' v' (by simpa using hs') (by simpa using hv')
   ·rw[List.mapM_cons,zl];have hr':=hr;rw[hr'];simp only[zh,zl,e3,zn]
  ·cases hs
theorem qv6{kr:Nat->SV}{n:Nat}:∀ {l:List (Nat×Sh)} {cs:List SV},l.all (fun p=>Nat.blt p.1 n)=true->∀t,n<=t->lookR (qkB kr l cs).1 t=.any
 | [],_,_,_,_=>rfl
 | (t0,s)::l,cs,h,t,ht=>by
  simp only[z41,z8,zS] at h;show(bif Nat.beq t t0 then _ else lookR _ t)=_;rw[bq (show t≠t0 by omega)]
  exact qv6 h.2 t ht
theorem FunOk.nothing{e:Fun}{fn:Func}{c:Code}(hf:P.funcs[e.f]? = some fn)(hb:fn.body=some c)(hname:(fn.name == "runtime.NumGoroutine")=false)(h:∀x,e.tw x=none):FunOk P e:=
 ⟨⟨fn,hf,hname,by rw[hb]; rfl⟩,fun x y hxy=>by rw[h] at hxy; cases hxy⟩
theorem FunOk.intro{e:Fun}{fn:Func}{c:Code}{p:Plan}(hf:P.funcs[e.f]? = some fn)(hb:fn.body=some c)(hname:(fn.name == "runtime.NumGoroutine")=false)(hN:fn.ntmps=C.N)(hnp:Nat.ble e.np C.N=true)
  (hnr:fn.results.toList.length=e.nr) (hregs:e.ji.regs.all (fun q=>Nat.blt q.1 e.np)=true) (hΓ:Tys P C.Γ) (hfs:CxOk P C) (hm:P.follows .mixedOrders=true)
  (htw:∀x,e.tw x=evFun C e.ji e.jo fn.results.toList c p x):FunOk P e:=by
 have hnp':=zJ hnp;refine⟨⟨fn,hf,hname,by rw[hb]; rfl⟩,fun x y hxy F w U vs hlen hmem hden=>?_⟩
 rw[htw] at hxy
 let M:Mod:=⟨InBlk U e.ji.names,fun b=>if b∈qlS e.ji e.jo then U b else none⟩
 have hpins:∀b v,M.pin b=some v->b∈qlS e.ji e.jo:=by
  intro b v hp;have hp':(if b∈qlS e.ji e.jo then U b else none)=some v:=hp
  by_cases hm:b∈qlS e.ji e.jo
  ·exact hm
  ·rw[if_neg hm] at hp'; cases hp'
 have hnm:∀b v,U b=some v->b∈e.ji.names:=by
  intro b v hv;by_cases hb:b∈e.ji.names
  ·exact hb
  ·have hd0:(e.ji.put0 x).d b=false:=zM.2 fun hh=>hb (qaU.1 (show memN e.ji.names b=true from hh))
   rw[hmem.dom b hd0] at hv; cases hv
 have hinit:Rel' P w M C.N F U (e.ji.put0 x) { tmps:=vs.toArray++Array.replicate (fn.ntmps-vs.toArray.size) undef,defers:=[] } w:=by
  refine⟨Fr.refl w _,hmem,fun b v g hp hv hg=>?_,fun t=>?_,?_,rfl,fun b v hp=>?_⟩
  ·exact .inl ⟨b,v,hnm b v hv,hv,hg⟩
  ·by_cases ht:t<vs.length
   ·have hget:(vs.toArray++Array.replicate (fn.ntmps-vs.toArray.size) undef).getD t undef=vs[t]:=by
     rw[z91,Array.getElem?_append_left (by simpa using ht)]
     simp[ht]
    rw[hget];exact hden t _ (zj ht)
   ·have:(e.ji.put0 x).r t=.any:=by
     show((lookR (qkB (fun _=>SV.any) e.ji.regs (ofCL e.ji.ct (ofT e.ji.ct x))).1 t).res κ0)=.any
     rw[qv6 hregs t (by omega)]; rfl
    rw[this]; exact .any _
  ·simp only[z62,zA1,Array.size_replicate]; omega
  ·have hp':(if b∈qlS e.ji e.jo then U b else none)=some v:=hp
   by_cases hm:b∈qlS e.ji e.jo
   ·rw[if_pos hm] at hp'; exact hp'
   ·rw[if_neg hm] at hp'; cases hp'
 have hrun:=ev_ok (P:=P) (w0:=w) (M:=M) (F0:=F) hΓ hfs hm hpins c p (CT e.jo.ct) κ0 _ _ y hxy _ w ⟨F,U,hinit,fun _ h=>h,fun _ h=>.inl h⟩
 refine calls_of_wp hf hb ?_
 refine zT1 ?_ hrun
 rintro en a' w' ⟨ex,su,rfl,hk,F',U',hr,hF1,hF2⟩
 have fin:retC C (qlS e.ji e.jo) e.jo fn.results.toList su=some y->a'.defers=[]/\∃v,(results fn a'.tmps).run P w'=.ok v w'/\∃r F' U',Ending.returned v=.returned r/\Fr w (InBlk U e.ji.names) w'/\(∀g,F g->F' g)/\(∀g,F' g->F g\/InBlk U e.ji.names g\/w.heap.size<=g)/\MemOk P F' w' U' (e.jo.put0 y)∧
   (∀b v,b∈e.ji.names->b∈e.jo.names->U b=some v->U' b=some v)/\(∀b v g,(e.jo.put0 y).present b->U' b=some v->blkOf v=some g->InBlk U e.ji.names g\/w.heap.size<=g)/\Den P F' w' U' (resSV e.nr (e.jo.put0 y)) r:=by
  intro hret;unfold retC at hret;split at hret
  ·rename_i ss hss;obtain⟨rv,e1,e0,e2,e3⟩:=qv5 (P:=P) hΓ hr hss
   -- the results as a frame of their own
   have hfr:Rel' P w M rv.length F' U' { κ0.sub su with r:=nthS ss } { tmps:=rv.toArray,defers:=[] } w':=by
    refine⟨hr.fr,hr.mem.congr rfl rfl rfl rfl,hr.lo,fun t=>?_,by simp,rfl,hr.pin⟩
    show Den P F' w' U' (nthS ss t) _;by_cases ht:t<ss.length
    ·rw[quq (zj ht)];have h2:rv.toArray.getD t undef=rv[t]'(by omega):=by simp[z91,show t<rv.length by omega]
     rw[h2];exact e2 t _ _ (zj ht) (zj (by omega))
    ·rw[qvZ (by omega)]; exact .any _
   obtain⟨F2,V2,hfin,g1,g2⟩:=qo2 (kr:=fun _=>.any) (kc:=fun _ _=>.any) (κ':=κ0) hpins hret (fun _=>rfl) (fun _ _=>rfl) (a:={ tmps:=rv.toArray,defers:=[] }) (w:=w') (F0:=F) ⟨F',U',hfr.subs κ0,hF1,hF2⟩
   have hregs2:∀i (h:i<rv.length),Den P F2 w' V2 ((e.jo.put0 y).r i) rv[i]:=by
    intro i hi;have:=hfin.regs i;have h2:rv.toArray.getD i undef=rv[i]:=by simp[z91,hi]
    rw[<-h2]; exact this
   refine⟨hr.df,(if h:rv.length=1 then rv[0] else .tuple rv.toArray),?_,_,F2,V2,rfl,hfin.fr,g1,fun g hg=>?_,hfin.mem,fun b v hb1 hb2 hv=>?_,fun b v g hp hv hg=>hfin.lo b v g hp hv hg,?_⟩
   ·unfold results;rw[zl,Array.mapM_eq_mapM_toList,Sem.run_map];refine Eq.trans (congrArg (fun r=>Result.andThen (Result.andThen r _) _) e3) ?_
    simp
   ·exact g2 g hg
   ·refine hfin.pin b v ?_
    show(if b∈qlS e.ji e.jo then U b else none)=some v
    rw[if_pos (show b∈qlS e.ji e.jo from zC2.2 ⟨hb1,qaU.2 hb2⟩)]; exact hv
   ·unfold resSV;have hnr':rv.length=e.nr:=by rw[e0,hnr]
    by_cases h1:rv.length=1
    ·rw[dif_pos h1,show Nat.beq e.nr 1=true by rw[<-hnr',h1]; rfl]
     exact hregs2 0 (by omega)
    ·rw[dif_neg h1,bq (show e.nr≠1 by omega)]
     refine .tup (by simp[hnr']) (fun i s v hs hv=>?_)
     rw[zH] at hs;obtain⟨q,hq,rfl⟩:=zg1.1 hs;have hi:i<rv.length:=(zp.1 hv).1;rw[List.getElem?_range (by omega)] at hq
     cases hq
     rw[zj hi] at hv; cases hv
     exact hregs2 i hi
  ·cases hret
 cases ex with
 | n=>exact fin hk
 | r=>exact fin hk
 | x id=>cases hk
end
end Go.Sq
namespace Go.Sq
open Go Go.RowKit Go.ChangeShapes Go.WideShapes
abbrev wi64(n:Int):Int:=IntKind.i64.wrap n
abbrev wu64(n:Int):Int:=IntKind.u64.wrap n
abbrev wu32(n:Int):Int:=IntKind.u32.wrap n
abbrev wu8(n:Int):Int:=IntKind.u8.wrap n
def qqP(k:IntKind)(m n:Int):Int:=k.wrap (BitVec.ofInt k.bits m&&&BitVec.ofInt k.bits n).toNat
/-! ### Loops and guards, for the laws -/
theorem qrs{σ ε:Type}{step:σ->Option (σ⊕ε)}(I:σ->Prop)(μ:σ->Nat)(Q:ε->Prop)
  (h:∀x,I x->(∃e,step x=some (.inr e)/\Q e)\/∃y,step x=some (.inl y)/\I y/\μ y<μ x) {x:σ} (hx:I x):∃e,iter step x=some e/\Q e:=by
 have key:∀n x,μ x<n->I x->∃e,iter step x=some e/\Q e:=by
  intro n;induction n with
  | zero=>intro x hx; omega
  | succ n ih=>
   intro x hn hx;rcases h x hx with⟨e,h1,h2⟩ | ⟨y,h1,h2,h3⟩
   ·exact⟨e,qas h1,h2⟩
   ·rw[qaJ h1]; exact ih y (by omega) h2
 exact key _ x (Nat.lt_succ_self _) hx
def iterN{σ ε:Type}(step:σ->Option (σ⊕ε)):Nat->σ->Option ε
 | 0,_=>none
 | n+1,x=>match step x with
  | some (.inl y)=>iterN step n y
  | some (.inr e)=>some e
  | none=>none
theorem qyf{σ ε:Type}{step:σ->Option (σ⊕ε)}:∀ {n:Nat} {x:σ} {e:ε},iterN step n x=some e->iter step x=some e
 | 0,_,_,h=>by cases h
 | n+1,x,e,h=>by
  simp only[iterN] at h;split at h
  ·rename_i y hy; rw[qaJ hy]; exact qyf h
  ·rename_i e' he; cases h; exact qas he
  ·cases h
theorem gd_t{A:Type}{c:Bool}{x:Option A}(h:c=true):gd c x=x:=by subst h; rfl
def LeO{A:Type}(a b:Option A):Prop:=∀y,a=some y->b=some y
theorem LeO.refl{A:Type}(a:Option A):LeO a a:=fun _ h=>h
theorem LeO.bind{A B:Type}{a b:Option A}{f g:A->Option B}(h:LeO a b)(hf:∀x,LeO (f x) (g x)):LeO (a.bind f) (b.bind g):=by
 intro y hy;obtain⟨x,h1,h2⟩:=zN1.1 hy;rw[h x h1]; exact hf x y h2
theorem LeO.gd{A:Type}{c:Bool}{a b:Option A}(h:LeO a b):LeO (Sq.gd c a) (Sq.gd c b):=by
 cases c with
 | true=>exact h
 | false=>exact .refl _
theorem LeO.bif{A:Type}{c:Bool}{a b a' b':Option A}(h:LeO a b)(h':LeO a' b'):LeO (bif c then a else a') (bif c then b else b'):=by
 cases c with
 | true=>exact h
 | false=>exact h'
theorem LeO.elim{A B C:Type}{s:A⊕B}{f f':A->Option C}{g g':B->Option C}(h:∀x,LeO (f x) (f' x))(h':∀x,LeO (g x) (g' x)):LeO (s.elim f g) (s.elim f' g'):=by
 cases s with
 | inl x=>exact h x
 | inr x=>exact h' x
theorem LeO.iter{σ ε:Type}{n:Nat}{step step':σ->Option (σ⊕ε)}(h:∀x,LeO (step x) (step' x)){x:σ}:LeO (iterN step n x) (Sq.iter step' x):=by
 intro y hy;refine qyf (n:=n) ?_
 induction n generalizing x with
 | zero=>cases hy
 | succ n ih=>
  simp only[iterN] at hy ⊢;split at hy
  ·rename_i z hz; rw[h x _ hz]; exact ih hy
  ·rename_i e he; rw[h x _ he]; exact hy
  ·cases hy
theorem Fr.below{w w':World}{M:Nat->Prop}(h:Fr w M w')(hM:∀g,¬M g):Below w.heap.size w w':=⟨h.os,h.tape,h.output,h.size,fun k hk=>h.blk k hk (hM k)⟩
theorem qzj{P:Program}{j:J}(hv:j.vars=[])(ha:j.arrs=[])(x:CT j.ct)(W:World)(hgl:qho (fun g=>g<W.heap.size) W):MemOk P (fun g=>g<W.heap.size) W Env.none (j.put0 x):=by
 have hV:∀b,(j.put0 x).v b=none:=by
  intro b;show(j.put (fun _=>.any) (fun _ _=>.any) x).v b=none
  simp[J.put,J.putL,mkSt,hv,qfJ,lookV]
 have hA:∀b,(j.put0 x).a b=none:=by
  intro b;show(j.put (fun _=>.any) (fun _ _=>.any) x).a b=none
  simp[J.put,J.putL,mkSt,ha,qkC,lookA]
 have hno:∀b,¬(j.put0 x).present b:=by
  intro b h;unfold St.present at h;rw[hV,hA] at h;simp at h
 refine⟨fun b _=>rfl,fun b ty k h=>?_,fun b A h=>?_,fun b b' v v' g h=>(hno b h).elim,fun b v g h=>(hno b h).elim,fun g h=>h,fun b v h=>(by cases h),hgl⟩
 ·rw[hV] at h; cases h
 ·rw[hA] at h; cases h
section
variable {H:Type} {enc:TypeId×Value->H} {P:Program}
theorem qo4(hl:laidOutB P=true){W W':World}(hb:Below W.heap.size W W'){sp:Nat->Bool}:
  ∀ {ts:List TypeId} {vs:List Value} {ds:List (DataW H)} {ps:List MemPlace},(ts.all fun t=>P.readableRec t&&decide (t<P.types.size))=true->
   DataW.TrodAll enc P W 0 (fun _=>true) true ts vs ds ps->(∀x∈ps,x.block<W.heap.size)->(∀x∈ps,sp x.block=true)->DataW.TrodAll enc P W' 0 sp true ts vs ds ps
 | [],[],[],_,_,h,_,_=>h
 | t::ts,v::vs,d::ds,ps,ht,h,hlt,hs=>by
  obtain⟨p,q,h1,h2,rfl⟩:=h;simp only[z41,z8,zi] at ht;refine⟨p,q,WideElems.Trod_stays hl ht.1.1 ht.1.2 h1 (fun x hx=>hb.same (hlt x (by simp[hx]))) (fun x hx=>hs x (by simp[hx])),?_,rfl⟩
  exact qo4 hl hb ht.2 h2 (fun x hx=>hlt x (by simp[hx])) (fun x hx=>hs x (by simp[hx]))
 | [],_::_,_,_,_,h,_,_=>by simp[DataW.TrodAll] at h
 | [],[],_::_,_,_,h,_,_=>by simp[DataW.TrodAll] at h
 | _::_,[],_,_,_,h,_,_=>by simp[DataW.TrodAll] at h
 | _::_,_::_,[],_,_,h,_,_=>by simp[DataW.TrodAll] at h
theorem qCq{e:Fun}{fn:Func}{s:ChangeSpec}{tb:TypeId}{W:World}{args:Array Value}{ds:List (DataW H)}{before:List MemPlace}{x:CT e.ji.ct}{y:CT e.jo.ct}
  (hl:laidOutB P=true) (hts:(fn.params.toList.all fun t=>P.readableRec t&&decide (t<P.types.size))=true) (hr:fn.resultTypes=#[tb]) (htb:P.underlying tb=some .bool)
  (hv:s.vars=[]) (hfn:s.fn H (ds++[])={ results:=[.lit (.bool true)],args:=ds })
  (hW:DataW.Whole enc P fn.params.toList s.vars false W args.toList ds [] before) (hc:FunOk P e) (hjv:e.ji.vars=[]) (hja:e.ji.arrs=[]) (hnr:e.nr=1) (hy:(e.jo.put0 y).r 0=.v .bool true) (htw:e.tw x=some y) (hlen:args.toList.length=e.np)
  (hden:∀(i:Nat) (v:Value),args.toList[i]? = some v->Den P (fun g=>g<W.heap.size) W Env.none ((e.ji.put0 x).r i) v) (hgl:qho (fun g=>g<W.heap.size) W:=by intro p hp; cases hp):
  Calls P e.f args W fun en W'=>∃v,en=.returned v/\s.post enc P fn false true false false W args v W':=by
 have hnm:e.ji.names=[]:=by simp[J.names,hjv,hja]
 have hrun:=hc.run x y htw (fun g=>g<W.heap.size) W Env.none args.toList hlen (qzj hjv hja x W hgl) hden
 rw[Array.toArray_toList] at hrun;refine hrun.mono fun en W' ⟨r,F',U',he,hfr,_,_,_,_,_,hd⟩=>⟨r,he,?_⟩
 obtain rfl:r=.bool true:=by
  unfold resSV at hd;rw[hnr] at hd;have hd':Den P F' W' U' ((e.jo.put0 y).r 0) r:=hd;rw[hy] at hd';exact hd'.bool rfl
 have hb:=hfr.below (fun g ⟨b,_,hb,_⟩=>by rw[hnm] at hb; cases hb)
 have hlt:∀p∈before,p.block<W.heap.size:=fun p hp=>hW.lt p hp
 have hWW:=hW;obtain⟨p,q,hA,hV,rfl,hz,hn⟩:=hW;have hV2:=hV;rw[hv] at hV;obtain rfl:q=[]:=hV;have hA':∀sp:Nat->Bool,(∀x∈p++[],sp x.block=true)->DataW.TrodAll enc P W' 0 sp true fn.params.toList args.toList (s.fn H (ds++[])).args (p++[]):=by
  intro sp hs;rw[hfn,zG];exact qo4 hl hb hts hA (fun x hx=>hlt x (by simp[hx])) (fun x hx=>hs x (by simp[hx]))
 have hres:∀(b:Nat) (sp:Nat->Bool) (hd:Bool),DataW.TrodAll enc P W' b sp hd fn.resultTypes.toList ((Value.bool true).resultList fn.resultTypes.size) (s.fn H (ds++[])).results []:=by
  intro b sp hd;rw[hr,hfn];exact trodAll_cons_mk (shut_bool htb _) trodAll_mk0
 have hvars:∀sp:Nat->Bool,DataW.TrodVars enc P W' sp s.vars (s.fn H (ds++[])).vars []:=by
  intro sp;rw[hv,hfn]; rfl
 have hok:∀(j:Nat) (t:TypeId) (r:Value),fn.resultTypes[j]? = some t->((Value.bool true).resultList fn.resultTypes.size)[j]? = some r->Value.okWide P W' .any 0 t r:=ok_one hr rfl (okWide_bool_mk htb _);have hold:∀x∈p++[],(fun b=>decide (b<W.heap.size)) x.block=true:=fun x hx=>by simpa using hlt x hx
 refine⟨ds,[],p++[],[],p++[],[],hWW,hres _ _ _,hA' _ hold,hvars _,World.keptBut_mono (fun x hx=>⟨hx,Or.inr (by simpa using hx)⟩) (hb.frame (· ∈ p++[])),fun _=>?_⟩
 refine⟨hok,_,_,([]++(p++[]))++[],⟨[]++(p++[]),[],trodAll_append (hA' _ (fun _ _=>rfl)) (hres _ _ _),hvars _,rfl,?_,?_⟩,?_⟩
 ·intro b off hp;have hp':MemPlace.cell b off∈p++[]:=by simpa using hp
  rw[hb.frozen (hlt _ hp')];exact hz b off hp'
 ·intro ha; cases ha
 ·intro x hx _; simpa using hx
theorem qFu{W:World}{r:Go.Reach}{b0:Nat}{a:Addr}{e:TypeId}{n:Nat}(h:W.has P r b0 a e n):a.block<W.heap.size:=by
 obtain⟨_,_,row,cells,hs,_⟩:=h;unfold World.shape? at hs;by_cases hlt:a.block<W.heap.size
 ·exact hlt
 ·rw[Array.getElem?_eq_none (by omega)] at hs
  simp at hs
theorem qCr{W:World}{r:Go.Reach}{b0:Nat}{t e:TypeId}{v:Value}{d:DataW H}{ps:List MemPlace}{sp:Nat->Bool}{held:Bool}(ht:P.underlying t=some (.slice e))(he:P.underlying e=some (.int .i64))(hc:P.cellsOf e=1)
  (hval:Value.okWide P W r b0 t v) (hd:DataW.Trod enc P W 0 sp held t v d ps):
  ∃l:List Int,RdV (fun g=>g<W.heap.size) W (.sl (.int .i64)) l v/\(l.length:Int)<=9223372036854775807/\∀x∈l,-9223372036854775808<=x/\x<=9223372036854775807:=by
 obtain⟨a,len,cap,rfl⟩:=okWide_slice ht hval;obtain⟨fuel,hf⟩:=hd;rcases open_ints ht he hc hf with⟨h,_⟩ | ⟨a',len',cap',zs,h,_,hle,hcap,hlz,_,hcell,hwf⟩
 ·have h':Value.slice a len cap=.slice none 0 0:=by simpa[Value.cells] using h
  injection h' with h1 h2 h3
  subst h1 h2 h3;exact⟨[],⟨_,⟨none,0,rfl,rfl⟩,rfl⟩,by simp,by simp⟩
 ·have h':Value.slice a len cap=.slice (some a') len' cap':=by simpa[Value.cells] using h
  injection h' with h1 h2 h3
  subst h1 h2 h3;have hz:len<=zs.length:=by rw[hlz]; split <;> omega
  have hblk:a'.block<W.heap.size:=by
   simp only[Value.okWide,ht,Cell.okWide,Cell.ok] at hval;exact qFu hval.2.2
  have hlen:(zs.take len).length=len:=by simp[hz]
  have hlen2:[Value.slice (some a') len cap]=[Value.slice (some a') (zs.take len).length cap]:=by rw[hlen]
  refine⟨zs.take len,⟨[.slice (some a') len cap],⟨some a',cap,hlen2,?_⟩,rfl⟩,?_,?_⟩
  ·refine⟨fun _=>hblk,zA (Nat.le_of_eq hlen) hle,hcap,fun i x hx=>?_⟩
   have hx':(zs.take len)[i]? = some x:=hx;have hi:i<len:=by have:=(zp.1 hx').1; omega
   refine⟨[.int .i64 x],rfl,fun j v hj=>?_⟩
   cases j with
   | succ j=>simp at hj
   | zero=>
    simp only[zl2,zt1] at hj; subst hj;have hz2:zs.getD i 0=x:=by
     rw[zr,if_pos hi] at hx';rw[zk,hx']; rfl
    have:=hcell i (by omega)
    rw[hz2] at this;show W.cell? (a'.add (i*1+0))=_;rw[zt2,zC1]; exact this
  ·rw[hlen];have:len<=maxLen:=zA hle hcap;unfold maxLen at this;omega
  ·intro x hx;have:=hwf x (zD2 hx);simpa[Lit.wf,IntKind.min,IntKind.max,IntKind.signed,IntKind.bits] using this
end
end Go.Sq
namespace Go.Sq
open Go
/-! ### Functions without a body here -/
def qDN(a b:List UInt8):Option Int:=some (Lib.compareBytes a b)
def qDO(f:FuncId):Ext:={ f:=f,ps:=[.str,.str],r:=.int .i64,g:=fun x=>qDN x.1 x.2.1 }
theorem qAM{P:Program}{f:FuncId}{fn:Func}(hf:P.funcs[f]? = some fn)(hname:(fn.name == "runtime.NumGoroutine")=false)(hb:fn.body.isNone=true)(hn:Extern.findNext fn=none)(he:Extern.find fn=some Extern.BytealgCompare.compare):ExtOk P (qDO f):=by
 intro x y hxy F w vs hvs;obtain⟨v1,r1,rfl,⟨cs1,h1,rfl⟩,v2,r2,rfl,⟨cs2,h2,rfl⟩,hr⟩:=hvs;have hr':r2=[]:=hr;subst hr';have h1':cs1=[.string ⟨⟨x.1⟩⟩]:=h1;have h2':cs2=[.string ⟨⟨x.2.1⟩⟩]:=h2;subst h1' h2';have hxy':some (Lib.compareBytes x.1 x.2.1)=some y:=hxy;injection hxy' with hxy'; subst hxy'
 refine⟨.int .i64 (Lib.compareBytes x.1 x.2.1),?_,⟨[.int .i64 (Lib.compareBytes x.1 x.2.1)],rfl,rfl⟩⟩
 show(callFunc f #[.string ⟨⟨x.1⟩⟩,.string ⟨⟨x.2.1⟩⟩]).run P w=_;rw[zZ2 hf hname hb hn he,Lib.run_compareString];rfl
def bothC{A:Type}[DecidableEq A](a b:Option A):Option A:=if a=b then a else none
theorem LeO.both{A:Type}[DecidableEq A]{a b a' b':Option A}(h:LeO a a')(h':LeO b b'):LeO (bothC a b) (bothO a' b'):=by
 intro y hy;unfold bothC at hy;split at hy
 ·rename_i e;subst e;rw[h y hy] at*
  unfold bothO;rw[if_pos (by rw[h' y hy])]
 ·cases hy
theorem FunOk.le{P:Program}{e:Fun}(h:FunOk P e){tw:CT e.ji.ct->Option (CT e.jo.ct)}(hl:∀x,LeO (tw x) (e.tw x)):FunOk P { f:=e.f,np:=e.np,nr:=e.nr,ji:=e.ji,jo:=e.jo,tw:=tw }:=
 ⟨h.ok,fun x y hxy=>h.run x y (hl x y hxy)⟩
theorem qmX{A:Type}(s:List A)(c:Bool):LeO (gd c (some ([]++s))) (bif Nat.beq s.length 0 then bothO (some []) (gd c (some ([]++s))) else gd c (some ([]++s))):=by
 intro y hy;cases c with
 | false=>cases hy
 | true=>
  cases s with
  | nil=>cases hy; show bothO (some []) (some [])=_; unfold bothO; rw[if_pos rfl]; rfl
  | cons a l=>exact hy
theorem wi{n:Int}(h : -9223372036854775808<=n/\n<=9223372036854775807):wi64 n=n:=IntWalk.i64_in n h
theorem qbn{σ ε:Type}{step:σ->Option (σ⊕ε)}(n:Nat)(st:Nat->σ){e:ε}(hs:∀i,i<n->step (st i)=some (.inl (st (i+1))))(he:step (st n)=some (.inr e)):iter step (st 0)=some e:=by
 have key:∀k,k<=n->iter step (st (n-k))=some e:=by
  intro k;induction k with
  | zero=>intro _; exact qas he
  | succ k ih=>
   intro hk;have:=hs (n-(k+1)) (by omega)
   rw[show n-(k+1)+1=n-k by omega] at this
   rw[qaJ this];exact ih (by omega)
 have:=key n (zP n);rwa[Nat.sub_self] at this
theorem qa1{σ ε:Type}{step:σ->Option (σ⊕ε)}(n:Nat)(st:Nat->σ)(p:Nat->Bool){fin bad:ε}
  (hs:∀i,i<n->(∀j,j<i->p j=true)->p i=true->step (st i)=some (.inl (st (i+1))))
  (hb:∀i,i<n->(∀j,j<i->p j=true)->p i=false->step (st i)=some (.inr bad))
  (he:(∀j,j<n->p j=true)->step (st n)=some (.inr fin)):iter step (st 0)=some (bif (List.range n).all p then fin else bad):=by
 have key:∀k,k<=n->(∀j,j<n-k->p j=true)->iter step (st (n-k))=some (bif (List.range n).all p then fin else bad):=by
  intro k;induction k with
  | zero=>
   intro _ h;rw[Nat.sub_zero] at h ⊢;rw[qas (he h),show(List.range n).all p=true from zq.2 fun x hx=>h x (zU.1 hx)]; rfl
  | succ k ih=>
   intro hk h;cases hp:p (n-(k+1)) with
   | true=>
    have:=hs (n-(k+1)) (by omega) h hp
    rw[show n-(k+1)+1=n-k by omega] at this
    rw[qaJ this];refine ih (by omega) fun j hj=>?_
    by_cases e:j=n-(k+1)
    ·rw[e]; exact hp
    ·exact h j (by omega)
   | false=>
    rw[qas (hb _ (by omega) h hp),show(List.range n).all p=false from List.all_eq_false.2 ⟨n-(k+1),zU.2 (by omega),by simp[hp]⟩]; rfl
 have:=key n (zP n) (fun j hj=>by omega)
 rwa[Nat.sub_self] at this
theorem qv7{n:Nat}{p:Nat->Bool}:(List.range n).all p=true↔∀i,i<n->p i=true:=by
 simp[zq,zU]
/-! ### Elements -/
theorem gD_eq{A:Type}{l:List A}{k:Nat}{d:A}(h:k<l.length):l.getD k d=l[k]:=by
 rw[zk,zj h]; rfl
theorem qtE{A:Type}{l:List A}{k:Nat}{d:A}(h:l.length<=k):l.getD k d=d:=by
 rw[zk,zy1 h]; rfl
theorem qle{A:Type}(l:List A)(j k:Nat)(v d:A):(l.set j v).getD k d=if j=k/\j<l.length then v else l.getD k d:=by
 rw[zk,zk,List.getElem?_set]
 by_cases h:j=k
 ·subst h;by_cases h2:j<l.length
  ·simp[h2]
  ·simp[h2]
 ·simp[h]
theorem qDP{A:Type}(X Y:List A)(k:Nat)(d:A):(X++Y).getD k d=if k<X.length then X.getD k d else Y.getD (k-X.length) d:=by
 rw[zk,zk,zk,List.getElem?_append]
 split <;> rfl
theorem qAN{A:Type}(X:List A)(n k:Nat)(d:A):(X.take n).getD k d=if k<n then X.getD k d else d:=by
 rw[zk,zk,zr];split <;> rfl
theorem qEt{A:Type}(X:List A)(n k:Nat)(d:A):(X.drop n).getD k d=X.getD (n+k) d:=by
 rw[zk,zk,zE]
theorem qsc{A B:Type}(f:A->B)(X:List A)(k:Nat)(d:A)(d':B)(h:k<X.length):(X.map f).getD k d'=f (X.getD k d):=by
 rw[gD_eq (by simpa using h),gD_eq h]; simp
theorem qCs(f:Nat->Int)(n k:Nat)(h:k<n):((List.range n).map f).getD k 0=f k:=by
 rw[gD_eq (by simpa using h)]; simp
theorem qbu{A:Type}{l:List A}{k:Nat}{d:A}(h:k<l.length):l.getD k d∈l:=by
 rw[gD_eq h]; exact zc3 h
theorem qv8{A:Type}{S:List A}{x:A}(d:A)(h:x∈S):∃k,k<S.length/\S.getD k d=x:=by
 obtain⟨k,hk,rfl⟩:=List.mem_iff_getElem.1 h;exact⟨k,hk,gD_eq hk⟩
theorem qDQ{A:Type}{X Y:List A}(d:A)(h:X.length=Y.length)(hk:∀k,k<X.length->X.getD k d=Y.getD k d):X=Y:=by
 refine List.ext_getElem h fun k h1 h2=>?_
 have:=hk k h1;rwa[gD_eq h1,gD_eq h2] at this
theorem qdP{A:Type}{l:List A}{i:Nat}(d:A)(h:i<l.length):l.take (i+1)=l.take i++[l.getD i d]:=by
 rw[gD_eq h,zI2 h]
def mix{A:Type}(X Y:List A)(i:Nat):List A:=X.take i++Y.drop i
theorem mix_0{A:Type}(X Y:List A):mix X Y 0=Y:=by simp[mix]
theorem mix_n{A:Type}{X Y:List A}{n:Nat}(h1:X.length=n)(h2:Y.length=n):mix X Y n=X:=by
 unfold mix; rw[zB (by omega),z21 (by omega),zG]
theorem qqk{A:Type}{X Y:List A}{i n:Nat}(h1:X.length=n)(h2:Y.length=n):(mix X Y i).length=n:=by
 unfold mix; simp only[ze,zm,zR]; omega
theorem qyg{A:Type}{X Y:List A}{i n:Nat}(h1:X.length=n)(h2:Y.length=n)(k:Nat)(d:A):(mix X Y i).getD k d=if k<i then X.getD k d else Y.getD k d:=by
 unfold mix;rw[qDP,qAN,qEt,zm];by_cases h:k<i
 ·by_cases h3:k<n
  ·rw[if_pos (by omega)]; simp only[h,if_true]
  ·rw[if_neg (by omega),if_pos h,qtE (by omega),qtE (by omega)]
 ·rw[if_neg (by omega),if_neg h]
  by_cases h3:k<n
  ·congr 1; omega
  ·rw[qtE (by omega),qtE (by omega)]
theorem qAO{A:Type}{X Y:List A}{i n:Nat}(h1:X.length=n)(h2:Y.length=n)(d:A)(h:i<n){v:A}(hv:v=X.getD i d):(mix X Y i).set i v=mix X Y (i+1):=by
 refine qDQ d (by rw[zs1,qqk h1 h2,qqk h1 h2]) fun k _=>?_
 rw[qle,qyg h1 h2,qyg h1 h2,qqk h1 h2];by_cases e:i=k
 ·subst e; rw[if_pos ⟨rfl,h⟩,if_pos (by omega),hv]
 ·rw[if_neg (fun hh=>e hh.1)]
  by_cases h3:k<i
  ·rw[if_pos h3,if_pos (by omega)]
  ·rw[if_neg h3,if_neg (by omega)]
/-! ### Sums -/
/-! ### Guards -/
theorem gd_tt{A:Type}(x:Option A):gd true x=x:=rfl
theorem inB_t{i:Nat}{n:Nat}(h:i<n):inB (i:Int) n=true:=qar.2 ⟨by omega,by omega⟩
theorem dec_t{p:Prop}[Decidable p](h:p:=by omega):decide p=true:=zb1 h
theorem dec_f{p:Prop}[Decidable p](h:¬p:=by omega):decide p=false:=zL2 h
theorem dlt{i n:Nat}(h:i<n):decide ((i:Int)<(n:Int))=true:=dec_t (by omega)
theorem qaF{n b:Nat}(h:n*b<=140737488355328):fits n b=true:=zj1 h
theorem qkF{b n:Nat}(h:n*b<=281474976710656):makeG b (n:Int)=true:=by
 unfold makeG;have:((n*b:Nat):Int)<=281474976710656:=by omega
 simp only[z8,zi];rw[Int.natCast_mul] at this;exact⟨by omega,by rw[Int.mul_comm]; exact this⟩
theorem inR_t{a b n:Nat}(h:a<=b)(h2:b<=n):inR (a:Int) (b:Int) n=true:=by
 unfold inR;simp only[z8,zi];omega
/-! ### Walks through maps, computed -/
inductive LeL {A:Type}:List (Option A)->List (Option A)->Prop
 | nil:LeL [] []
 | cons {a b:Option A} {l l':List (Option A)}:LeO a b->LeL l l'->LeL (a::l) (b::l')
theorem LeL.refl{A:Type}:∀(l:List (Option A)),LeL l l
 | []=>.nil
 | a::l=>.cons (LeO.refl a) (LeL.refl l)
theorem LeL.one{A:Type}{a b:Option A}(h:LeO a b):LeL [a] [b]:=.cons h .nil
theorem LeL.map{A B:Type}{f g:B->Option A}(h:∀i,LeO (f i) (g i)):∀ {l:List B},LeL (l.map f) (l.map g)
 | []=>.nil
 | _::_=>.cons (h _) (LeL.map h)
theorem LeL.bif{A:Type}{c:Bool}{x y x' y':List (Option A)}(h:LeL x x')(h':LeL y y'):LeL (bif c then x else y) (bif c then x' else y'):=by
 cases c
 ·exact h'
 ·exact h
theorem LeL.eq{A:Type}{l l':List (Option A)}(h:LeL l l')(hs:∀o∈l,∃r,o=some r):l'=l:=by
 induction h with
 | nil=>rfl
 | @cons a b l l' h _ ih=>
  obtain⟨r,rfl⟩:=hs a (by simp)
  rw[ih fun o ho=>hs o (by simp[ho]),h r rfl]
end Go.Sq
namespace Go.Sq
open Go Go.RowKit Go.ChangeShapes Go.WideShapes
section
variable {H:Type} {enc:TypeId×Value->H} {P:Program}
/-! ### Any data among a law's arguments -/
mutual
inductive HasTy (P:Program):Ty->TypeId->Prop
 | int {t:TypeId} {k:IntKind}:P.underlying t=some (.int k)->HasTy P (.int k) t
 | bool {t:TypeId}:P.underlying t=some .bool->HasTy P .bool t
 | str {t:TypeId}:P.underlying t=some .string->HasTy P .str t
 | sl {t te:TypeId} {e:Ty}:P.underlying t=some (.slice te)->P.cellsOf te=e.size->0<e.size->HasTy P e te->HasTy P (.sl e) t
 | struct {t:TypeId} {fs:Array Field} {a b:Ty}:P.underlying t=some (.struct fs)->P.cellsOf t=(Ty.pair a b).size->HasFs P (.pair a b) fs.toList 0->HasTy P (.pair a b) t
inductive HasFs (P:Program):Ty->List Field->Nat->Prop
 | one {a:Ty} {f:Field} {o:Nat}:f.offset=o->P.cellsOf f.type=a.size->HasTy P a f.type->HasFs P (.pair a .unit) [f] o
 | two {a b:Ty} {f g:Field} {o:Nat}:f.offset=o->P.cellsOf f.type=a.size->HasTy P a f.type->g.offset=o+a.size->P.cellsOf g.type=b.size->HasTy P b g.type->HasFs P (.pair a b) [f,g] o
 | more {a b:Ty} {f g h:Field} {r:List Field} {o:Nat}:f.offset=o->P.cellsOf f.type=a.size->HasTy P a f.type->HasFs P b (g::h::r) (o+a.size)->HasFs P (.pair a b) (f::g::h::r) o
end
def WfT:(T:Ty)->T.den->Prop
 | .int k,n=>(Lit.int k n).wf=true
 | .str,l=>List.length (α:=UInt8) l<=maxLen
 | .sl e,l=>List.length (α:=e.den) l<=maxLen/\∀x,List.Mem (α:=e.den) x l->WfT e x
 | .pair a b,x=>WfT a x.1/\WfT b x.2
 | _,_=>True
def SmT(B:Nat):(T:Ty)->T.den->Prop
 | .str,l=>List.length (α:=UInt8) l<=B
 | .pair a b,x=>SmT B a x.1/\SmT B b x.2
 | _,_=>True
theorem qlT{p:Nat->Bool}:∀ {ts:List TypeId} {ds:List (DataW H)},(DataW.weightsEach P ts ds).all p=true->∀(i:Nat) (t:TypeId) (d:DataW H),ts[i]? = some t->ds[i]? = some d->(d.weights P t).all p=true
 | [],_,_,i,t,d,ht,_=>by simp at ht
 | _::_,[],_,i,t,d,_,hd=>by simp at hd
 | t0::ts,d0::ds,h,i,t,d,ht,hd=>by
  rw[DataW.weightsEach,List.all_append,z8] at h;cases i with
  | zero=>simp at ht hd; subst ht hd; exact h.1
  | succ i=>exact qlT h.2 i t d (by simpa using ht) (by simpa using hd)
theorem qEu{A:Type}{n:Nat}{Q:Nat->A->Prop}(h:∀i,i<n->∃x,Q i x):∃l:List A,l.length=n/\∀i x,l[i]? = some x->Q i x:=by
 induction n with
 | zero=>exact⟨[],rfl,fun i x hx=>by simp at hx⟩
 | succ n ih=>
  obtain⟨l,h1,h2⟩:=ih fun i hi=>h i (by omega)
  obtain⟨x,hx⟩:=h n (by omega)
  refine⟨l++[x],by simp[h1],fun i y hy=>?_⟩
  by_cases hi:i<n
  ·rw[zY (by omega)] at hy; exact h2 i y hy
  ·rw[zX (by omega)] at hy
   have hi2:i-l.length=0:=by
    have:=(zp.1 hy).1;simpa using this
   rw[hi2] at hy;simp at hy;subst hy;rwa[show i=n by omega]
theorem qEv{W:World}{held:Bool}:∀ {fuel:Nat} {T:Ty} {t:TypeId} {cs:List Value} {y:DataW H×List MemPlace},HasTy P T t->DataW.trod enc P W 0 (fun _=>true) held fuel t cs=some y->
  ∃x:T.den,RdC (fun g=>g<W.heap.size) W T x cs/\WfT T x/\∀B,(y.1.weights P t).all (· <= B)=true->SmT B T x:=by
 intro fuel;induction fuel using Nat.strongRecOn with
 | _ fuel ih=>
 intro T t cs y ht h;cases ht with
 | int hu=>
  obtain⟨x,h1,_,h2⟩:=DataW.trod_int hu h;exact⟨x,h1,h2,fun _ _=>trivial⟩
 | bool hu=>
  obtain⟨x,h1,_⟩:=DataW.trod_bool hu h;exact⟨x,h1,trivial,fun _ _=>trivial⟩
 | str hu=>
  obtain⟨s,h1,rfl,h2⟩:=DataW.trod_string hu h;refine⟨s.data.toList,h1,?_,fun B hB=>?_⟩
  ·show s.data.toList.length<=maxLen;rw[zn1]; exact h2
  ·show s.data.toList.length<=B;simpa[DataW.weights] using hB
 | @sl _ te e hu hc hpos he=>
  rcases DataW.trod_slice hu h with⟨rfl,_⟩ | ⟨a,len,cap,elems,rest,n,hn,rfl,rfl,hb,hl,hm,hlen,hel,hsp,_⟩
  ·exact⟨[],⟨none,0,rfl,rfl⟩,⟨zN _,fun x hx=>by cases hx⟩,fun _ _=>trivial⟩
  ·have each:∀i,i<len->∃x:e.den,(∃es,RdC (fun g=>g<W.heap.size) W e x es/\∀j v,es[j]? = some v->W.cell? (a.add (i*e.size+j))=some v)/\WfT e x:=by
    intro i hi;have h1:=hel i hi;rw[zj (by omega),zN1] at h1
    obtain⟨es,h2,h3⟩:=h1;obtain⟨x,h4,h5,_⟩:=ih n (by omega) he h3
    refine⟨x,⟨es,h4,fun j v hj=>?_⟩,h5⟩
    obtain⟨_,h6,h7⟩:=World.cells?_some h2
    have hj2:j<P.cellsOf te:=by rw[<-h6]; exact(zp.1 hj).1
    have:=h7 j hj2;rw[hj,hc,qon] at this;exact this
   obtain⟨l,l1,l2⟩:=qEu each;have hblk:0<cap->a.block<W.heap.size:=by
    intro hcap;have hread:∀(i:Nat) {r:Option (DataW H×List MemPlace)} {z:DataW H×List MemPlace},((W.cells? 0 (a.add (i*P.cellsOf te)) (P.cellsOf te)).bind (DataW.trod enc P W 0 (fun _=>true) held n te))=r->r=some z->a.block<W.heap.size:=by
     intro i r z h1 h2;rw[h2,zN1] at h1;obtain⟨es,h3,_⟩:=h1;obtain⟨_,h6,h7⟩:=World.cells?_some h3
     have h8:=h7 0 (by omega)
     have h9:0<es.length:=by omega
     rw[zj h9] at h8;have:=World.block_lt_of_cell? W _ h8;rw[qhn,qhn] at this;exact this
    by_cases h0:0<len
    ·exact hread 0 (hel 0 h0) (zj (by omega))
    ·obtain⟨h1,h2⟩:=hsp rfl;exact hread (len+0) (h2 0 (by omega)) (zj (by omega))
   have hll:[Value.slice (some a) len cap]=[Value.slice (some a) l.length cap]:=by rw[l1]
   refine⟨l,⟨some a,cap,hll,hblk,by rw[l1]; exact hl,hm,fun i x hx=>(l2 i x hx).1⟩,⟨by rw[l1]; exact zA hl hm,fun x hx=>?_⟩,fun _ _=>trivial⟩
   obtain⟨i,hi⟩:=zq1 hx;exact(l2 i x hi).2
 | @struct _ fs a b hu hsz hfs=>
  obtain⟨xs,n,hn,rfl,hl,hlen,hf⟩:=DataW.trod_struct hu h;have key:∀ {T:Ty} {l:List Field} {o k:Nat},HasFs P T l o->(∀i f,l[i]? = some f->fs.toList[k+i]? = some f)->o+T.size<=cs.length->∃x:T.den,RdC (fun g=>g<W.heap.size) W T x ((cs.drop o).take T.size)/\WfT T x/\∀B,(DataW.weightsEach P (fs.toList.map (·.type)) (xs.map (·.1))).all (· <= B)=true->SmT B T x:=by
   intro T l;have fld:∀ {a:Ty} {f:Field} {o i:Nat},f.offset=o->P.cellsOf f.type=a.size->HasTy P a f.type->fs.toList[i]? = some f->∃x:a.den,RdC (fun g=>g<W.heap.size) W a x ((cs.drop o).take a.size)/\WfT a x/\∀B,(DataW.weightsEach P (fs.toList.map (·.type)) (xs.map (·.1))).all (· <= B)=true->SmT B a x:=by
    intro a f o i h1 h2 h3 h4;have h5:=hf i f (by simpa using h4)
    have hi:i<xs.length:=by
     rw[hlen];have:=(zp.1 h4).1;simpa using this
    rw[zj hi] at h5;obtain⟨x,h6,h7,h8⟩:=ih n (by omega) h3 h5
    rw[h1,h2] at h6;exact⟨x,h6,h7,fun B hB=>h8 B (qlT hB i f.type (xs[i]).1 (by rw[zH,h4]; rfl) (by rw[zH,zj hi]; rfl))⟩
   have cut:∀ {o a b:Nat},(cs.drop o).take (a+b)=(cs.drop o).take a++(cs.drop (o+a)).take b:=by
    intro o a b;rw[zb3,zI1]
   induction l generalizing T with
   | nil=>intro o k h; cases h
   | cons f r ihl=>
    intro o k h hk hsz;cases h with
    | one h1 h2 h3=>
     obtain⟨x,h4,h5,h5'⟩:=fld h1 h2 h3 (hk 0 f rfl);exact⟨(x,()),⟨_,[],by rw[zG]; rfl,h4,rfl⟩,⟨h5,trivial⟩,fun B hB=>⟨h5' B hB,trivial⟩⟩
    | two h1 h2 h3 g1 g2 g3=>
     obtain⟨x,h4,h5,h5'⟩:=fld h1 h2 h3 (hk 0 f rfl);obtain⟨z,h6,h7,h7'⟩:=fld g1 g2 g3 (hk 1 _ rfl);exact⟨(x,z),⟨_,_,cut,h4,h6⟩,⟨h5,h7⟩,fun B hB=>⟨h5' B hB,h7' B hB⟩⟩
    | @more a b _ g h' r' _ h1 h2 h3 h8=>
     obtain⟨x,h4,h5,h5'⟩:=fld h1 h2 h3 (hk 0 f rfl);obtain⟨z,h6,h7,h7'⟩:=ihl (k:=k+1) h8 (fun i q hq=>by
      have:=hk (i+1) q (by simpa using hq)
      rwa[show k+1+i=k+(i+1) by omega]) (by
      have:(Ty.pair a b).size=a.size+b.size:=rfl;omega)
     exact⟨(x,z),⟨_,_,cut,h4,h6⟩,⟨h5,h7⟩,fun B hB=>⟨h5' B hB,h7' B hB⟩⟩
  obtain⟨x,h1,h2,h3⟩:=key (o:=0) (k:=0) hfs (fun i f hf=>by simpa using hf) (by rw[hl,hsz]; omega)
  rw[z92,zB (by rw[hl,hsz]; exact zP _)] at h1
  exact⟨x,h1,h2,fun B hB=>h3 B (by simpa[DataW.weights,hu] using hB)⟩
theorem qyh{T:Ty}{W:World}{r:Go.Reach}{b0:Nat}{t:TypeId}{v:Value}{d:DataW H}{ps:List MemPlace}{held:Bool}(ht:HasTy P T t)(hval:Value.okWide P W r b0 t v)(hd:DataW.Trod enc P W 0 (fun _=>true) held t v d ps):
  ∃x:T.den,RdV (fun g=>g<W.heap.size) W T x v/\WfT T x/\∀B,(d.weights P t).all (· <= B)=true->SmT B T x:=by
 obtain⟨fuel,hf⟩:=hd;obtain⟨x,h1,h2⟩:=qEv ht hf;refine⟨x,⟨v.cells.toList,h1,?_⟩,h2⟩
 cases ht with
 | int hu=>obtain⟨n,rfl⟩:=okWide_int hu hval; rfl
 | bool hu=>obtain⟨n,rfl⟩:=okWide_bool hu hval; rfl
 | str hu=>obtain⟨n,rfl⟩:=okWide_string hu hval; rfl
 | sl hu _ _ _=>obtain⟨a,len,cap,rfl⟩:=okWide_slice hu hval; rfl
 | struct hu _ _=>obtain⟨cs,rfl,_⟩:=okWide_struct hu hval; simp[mkV,Ty.agg,Value.cells]
end
/-! ### A computation that comes to something -/
def Ok{A:Type}(x:Option A)(Q:A->Prop):Prop:=∃a,x=some a/\Q a
theorem Ok.ret{A:Type}{a:A}{Q:A->Prop}(h:Q a):Ok (some a) Q:=⟨a,rfl,h⟩
theorem oB{A B:Type}{x:Option A}{f:A->Option B}{Q:A->Prop}{R:B->Prop}(h:Ok x Q)(hf:∀a,Q a->Ok (f a) R):Ok (x.bind f) R:=by
 obtain⟨a,rfl,ha⟩:=h;exact hf a ha
theorem oE{A B:Type}{x:Option A}{a:A}{f:A->Option B}{R:B->Prop}(h:x=some a)(hf:Ok (f a) R):Ok (x.bind f) R:=by
 subst h; exact hf
theorem oI{A:Type}{c:Bool}{x y:Option A}{Q:A->Prop}(h:c=true->Ok x Q)(h':c=false->Ok y Q):Ok (bif c then x else y) Q:=by
 cases c with
 | true=>exact h rfl
 | false=>exact h' rfl
theorem oG{A:Type}{c:Bool}{x:Option A}{Q:A->Prop}(hc:c=true)(h:Ok x Q):Ok (Sq.gd c x) Q:=by
 subst hc; exact h
theorem Ok.mono{A:Type}{x:Option A}{Q R:A->Prop}(h:Ok x Q)(hq:∀a,Q a->R a):Ok x R:=by
 obtain⟨a,e,ha⟩:=h; exact⟨a,e,hq a ha⟩
theorem Ok.elim{A B C:Type}{s:A⊕B}{f:A->Option C}{g:B->Option C}{Q:C->Prop}(h:∀a,s=.inl a->Ok (f a) Q)(h':∀b,s=.inr b->Ok (g b) Q):Ok (s.elim f g) Q:=by
 cases s with
 | inl a=>exact h a rfl
 | inr b=>exact h' b rfl
theorem oL{σ ε:Type}{step:σ->Option (σ⊕ε)}{x:σ}(I:σ->Prop)(μ:σ->Nat){Q:ε->Prop}(hx:I x)(h:∀x,I x->Ok (step x) (fun r=>match r with | .inl y=>I y/\μ y<μ x | .inr e=>Q e)):Ok (iter step x) Q:=by
 refine qrs I μ Q (fun x hx=>?_) hx
 obtain⟨r,hr,hq⟩:=h x hx;cases r with
 | inl y=>exact .inr ⟨y,hr,hq.1,hq.2⟩
 | inr e=>exact .inl ⟨e,hr,hq⟩
theorem Ok.true{x:Option Bool}(h:Ok x (fun b=>b=true)):x=some true:=by
 obtain⟨b,e,hb⟩:=h;rw[e,hb]
end Go.Sq
