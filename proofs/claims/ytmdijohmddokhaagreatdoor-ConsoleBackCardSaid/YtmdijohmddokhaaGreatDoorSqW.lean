/- The second engine, part W: calls of function values; closures become function values. No condition. -/
import Derived.Test.YtmdijohmddokhaaGreatDoorSqQ
namespace Go.Sq
open Go Go.RowKit
def qvB:List Fun->FuncId->Option Fun
 | [],_=>none
 | e::r,f=>bif Nat.beq e.f f then some e else qvB r f
def qxA(P:Program):List Fun->Prop
 | []=>True
 | e::r=>FunOk P e/\qxA P r
theorem qrK{P:Program}:∀ {l:List Fun} {f:FuncId} {e:Fun},qxA P l->qvB l f=some e->FunOk P e/\e.f=f
 | [],_,_,_,h=>by cases h
 | x::l,f,e,⟨h0,h1⟩,h=>by
  have h':(bif Nat.beq x.f f then some x else qvB l f)=some e:=h;cases hb:Nat.beq x.f f with
  | true=>rw[hb] at h'; injection h' with h'; subst h'; exact⟨h0,zc hb⟩
  | false=>rw[hb] at h'; exact qrK h1 h'
/-! ### A function value is called -/
structure VC where
 σ:Type
 dflt:σ
 m:Option σ
 rd:List Key
 wr:σ->List Wr
def hlOf:(ps:List Ty)->List SV->Option (HL ps)
 | [],[]=>some ()
 | τ::r,s::l=>match s.dat τ with
  | some x=>match hlOf r l with
   | some y=>some (x,y)
   | none=>none
  | none=>none
 | _,_=>none
def svL:(ps:List Ty)->HL ps->List SV
 | [],_=>[]
 | τ::r,x=>.v τ x.1::svL r x.2
def qwM(st:St)(N d t:Nat)(xs:List Operand):Option VC:=
 match st.r t with
 | .fn ps r g=>match hlOf ps (xs.map st.ev) with
  | some x=>bif Nat.blt d N then some ⟨r.den,r.dflt,g x,.r t::qnp xs,fun y=>[.r d (.v r y)]⟩ else none
  | none=>none
 | _=>none
/-! ### A closure that only reads computes -/
def cloFn(e:Fun)(ps:List Ty)(r:Ty)(cells:List SV):HL ps->Option r.den:=fun x=>
 match qn5 e κ0 1 0 (svL ps x++cells) with
 | some q=>(e.tw q.x).bind fun y=>((κ0.app (q.wr y)).r 0).dat r
 | none=>none
def fnArg(fs:List Fun):Sh->SV->SV
 | .one (.fn ps r),.clo f cells=>match qvB fs f with
  | some e=>bif cells.all qh2 then .fn ps r (cloFn e ps r cells) else .clo f cells
  | none=>.clo f cells
 | _,s=>s
def qnq(fs:List Fun):List (Nat×Sh)->List SV->List SV
 | (_,h)::l,s::ss=>fnArg fs h s::qnq fs l ss
 | _,ss=>ss
section
variable {P:Program} {w0:World} {M:Mod} {N:Nat} {F0:Nat->Prop} {ops:Array Oper}
variable {F:Nat->Prop} {ρ:Env} {st:St} {a:Act} {w:World} {rty:TypeId}
theorem qwN:∀ {ps:List Ty} {ss:List SV} {vs:List Value} {x:HL ps},hlOf ps ss=some x->ss.length=vs.length->(∀(i:Nat) (s:SV) (u:Value),ss[i]? = some s->vs[i]? = some u->Den P F w ρ s u)->RdL F w ps x vs
 | [],[],[],_,_,_,_=>rfl
 | [],[],_::_,_,_,hl,_=>by simp at hl
 | [],_::_,_,_,h,_,_=>by cases h
 | _::_,[],_,_,h,_,_=>by cases h
 | _::_,_::_,[],_,_,hl,_=>by simp at hl
 | τ::ps,s::ss,v::vs,x,h,hl,hd=>by
  simp only[hlOf] at h;split at h
  ·rename_i x0 h0;split at h
   ·rename_i y hy;injection h with h; subst h
    exact⟨v,vs,rfl,qcR h0 (hd 0 s v rfl rfl),qwN hy (by simpa using hl) (fun i s u hs hu=>hd (i+1) s u (by simpa using hs) (by simpa using hu))⟩
   ·cases h
  ·cases h
theorem qzZ:∀ {ps:List Ty} {x:HL ps} {vs:List Value},RdL F w ps x vs->(svL ps x).length=vs.length/\∀(i:Nat) (s:SV) (u:Value),(svL ps x)[i]? = some s->vs[i]? = some u->Den P F w ρ s u
 | [],_,vs,h=>by
  have h':vs=[]:=h;subst h'; exact⟨rfl,fun i s u hs=>by simp[svL] at hs⟩
 | τ::ps,x,vs,h=>by
  obtain⟨v,vs',rfl,h1,h2⟩:=h;obtain⟨a1,a2⟩:=qzZ h2;refine⟨by simp[svL,a1],fun i s u hs hu=>?_⟩
  cases i with
  | zero=>simp[svL] at hs hu; subst hs hu; exact .v h1
  | succ i=>exact a2 i s u (by simpa[svL] using hs) (by simpa using hu)
theorem qgR(a:Act)(dst:Option Tmp)(t:Tmp)(xs:Array Operand)(ats:Array TypeId)(ty:TypeId)(pos:String)(after:Array Edge)(guard:Option (Nat×Bool)){f:FuncId}{caps:Array Value}(hv:a.eval (.tmp t)=.func (.func f) #[] caps):
  execOp a.eval { dst,op:=.call { callee:=.value (.tmp t),args:=xs,argTypes:=ats },type:=ty,pos,after,guard }=callFunc f (#[]++xs.map a.eval++caps):=by
 show(do let d<-Deferred.ofValue (a.eval (.tmp t)) (xs.map a.eval); invoke d.target d.args)=_
 rw[hv]; rfl
theorem qyI{d t:Nat}{xs:List Operand}{ats:Array TypeId}{r:VC}{y:r.σ}(h:qwM st N d t xs=some r)(hy:r.m=some y)(pos:String)(af:Array Edge):
  RT P w0 M N F0 ops ⟨some d,.call { callee:=.value (.tmp t),args:=xs.toArray,argTypes:=ats },rty,pos,af,none⟩ st r.rd (r.wr y):=by
 unfold qwM at h;split at h
 ·rename_i ps ρty g hfn;split at h
  ·rename_i x hx;cases hb:Nat.blt d N with
   | false=>rw[hb] at h; cases h
   | true=>
    rw[hb] at h; injection h with h; subst h
    rw[zX] at hb;intro st' hag a w ⟨F,ρ,hr,hF⟩;rw[if_pos (qco rfl)];have h0:=hr.regs t;rw[<-(hag (.r t) (by simp):st.r t=st'.r t),hfn] at h0
    have hden:=qgc (st:=st) (xs:=xs) hr (fun κ hκ=>hag κ (zO _ hκ))
    generalize hu:a.tmps.getD t undef=u at h0;cases h0 with
    | fn hv=>
     rcases hv with⟨_,hv⟩ | ⟨f,caps,rfl,hfo,hrun⟩
     ·rw[hv] at hy; cases hy
     unfold Oper.wp;rw[qgR a (some d) t xs.toArray ats rty pos af none (show a.eval (.tmp t)=_ from hu)]
     have ee:(#[]++xs.toArray.map a.eval++caps:Array Value)=(xs.map a.eval).toArray++caps:=by simp
     rw[ee,qgb hfo];show Calls P f _ w _;refine(hrun x y hy F w (xs.map a.eval) (fun _ h=>h) (fun _ _=>rfl) hr.mem.fb (qwN hx (by simp) hden)).mono ?_
     rintro en w' ⟨rv,F',rfl,q1,q2,q3,q4,q5⟩
     show Rel P w0 M N F0 (st'.put (.r d (.v ρty y))) (a.put (some d) rv) w';refine⟨F',ρ,(hr.grow q1 q2 q3 q4).setR hb (.v q5),fun g hg=>q2 g (hF.1 g hg),fun g hg=>?_⟩
     rcases q3 g hg with h1 | h1
     ·exact hF.2 g h1
     ·exact .inr (.inr (zG hr.fr.size h1))
  ·cases h
 ·cases h
theorem qt6(hgl:qgM F w){e:Fun}(c:FunOk P e){ps:List Ty}{r:Ty}{cells:List SV}{caps:List Value}(hcl:cells.all qh2=true)(hl:cells.length=caps.length)
  (hd:∀(i:Nat) (s:SV) (u:Value),cells[i]? = some s->caps[i]? = some u->Den P F w ρ s u):FnVal P F w ps r (cloFn e ps r cells) (.func (.func e.f) #[] caps.toArray):=by
 refine .inr ⟨e.f,caps.toArray,rfl,c.ok,fun x y hxy F' w' vs hF hw hb hx=>?_⟩
 unfold cloFn at hxy;split at hxy
 ·rename_i q hq;obtain⟨z,hz,hy⟩:=zV2.1 hxy;obtain⟨a1,a2⟩:=qzZ (P:=P) (ρ:=Env.none) hx;have ee:vs.toArray++caps.toArray=(vs++caps).toArray:=by simp
  rw[ee];refine(qq2 c (F0:=F') (vs:=vs++caps) hq hz (fun κ _=>agree.refl _ κ) (qrI hb (hgl.mono hF hw)) ⟨fun _ h=>h,fun _ h=>.inl h⟩ (by simp[a1,hl]) (fun i s u hs hu=>?_)).mono ?_
  ·by_cases hi:i<(svL ps x).length
   ·rw[zR hi] at hs;rw[zR (by omega)] at hu
    exact a2 i s u hs hu
   ·rw[zV (by omega)] at hs
    rw[zV (by omega),<-a1] at hu
    have h1:=hd _ s u hs hu;have hc:qh2 s=true:=zm.1 hcl s (zF hs);exact(h1.mono hF hw ρ (fun _ _ h=>h)).closed hc
  ·rintro en w'' ⟨rv,rfl,F'',ρ'',hr,k1,k2⟩
   refine⟨rv,F'',rfl,⟨hr.fr.os,hr.fr.tape,hr.fr.output,hr.fr.size,fun g hg _=>hr.fr.blk g hg (fun h=>h)⟩,k1,fun g hg=>?_,hr.mem.fb,?_⟩
   ·rcases k2 g hg with h1 | h1 | h1
    ·exact .inl h1
    ·exact h1.elim
    ·exact .inr h1
   ·have:=hr.regs 0;exact qcR hy this
 ·cases hxy
theorem qtn(hgl:qgM F w){fs:List Fun}(hfs:qxA P fs):∀ {l:List (Nat×Sh)} {ss:List SV} {vs:List Value},ss.length=vs.length->(∀(i:Nat) (s:SV) (u:Value),ss[i]? = some s->vs[i]? = some u->Den P F w ρ s u)->
  (qnq fs l ss).length=vs.length/\∀(i:Nat) (s:SV) (u:Value),(qnq fs l ss)[i]? = some s->vs[i]? = some u->Den P F w ρ s u
 | [],ss,vs,hl,hd=>⟨by simpa[qnq] using hl,fun i s u hs hu=>hd i s u (by simpa[qnq] using hs) hu⟩
 | _::_,[],vs,hl,hd=>⟨by simpa[qnq] using hl,fun i s u hs hu=>by simp[qnq] at hs⟩
 | (t,sh)::l,s::ss,[],hl,hd=>by simp at hl
 | (t,sh)::l,s::ss,v::vs,hl,hd=>by
  obtain⟨h1,h2⟩:=qtn hgl hfs (l:=l) (ss:=ss) (vs:=vs) (by simpa using hl) (fun i s u hs hu=>hd (i+1) s u (by simpa using hs) (by simpa using hu))
  have hd0:=hd 0 s v rfl rfl;have e1:qnq fs ((t,sh)::l) (s::ss)=fnArg fs sh s::qnq fs l ss:=rfl;have e2:Den P F w ρ (fnArg fs sh s) v:=by
   unfold fnArg;split
   ·split
    ·rename_i f cells _ e he;obtain⟨c,rfl⟩:=qrK hfs he;cases hb:cells.all qh2 with
     | false=>exact hd0
     | true=>
      cases hd0 with
      | clo a1 a2=>exact .fn (qt6 hgl c hb a1 a2)
    ·exact hd0
   ·exact hd0
  rw[e1];refine⟨by simp[h1],fun i s u hs hu=>?_⟩
  cases i with
  | zero=>simp at hs hu; subst hs hu; exact e2
  | succ i=>exact h2 i s u (by simpa using hs) (by simpa using hu)
end
end Go.Sq
