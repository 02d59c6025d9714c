/- The second engine, part R: one operation, guarded or not; a region. No condition. -/
import Derived.Test.YtmdijohmddokhaaGreatDoorSqW
namespace Go.Sq
open Go Go.RowKit
structure OR where
 g:Bool
 σ:Type
 dflt:σ
 m:Option σ
 rd:List Key
 wr:σ->List Wr
def gd{A:Type}(c:Bool)(x:Option A):Option A:=bif c then x else none
theorem qz0{A:Type}{c:Bool}{x:Option A}{a:A}(h:gd c x=some a):c=true/\x=some a:=by
 cases c with
 | true=>exact⟨rfl,h⟩
 | false=>cases h
def Ct.dflt:(c:Ct)->c.den
 | .d τ=>τ.dflt
 | .f _ _=>fun _=>none
def CT.dflt:(l:List Ct)->CT l
 | []=>()
 | [c]=>c.dflt
 | c::d::r=>(c.dflt,CT.dflt (d::r))
structure Ext where
 f:FuncId
 ps:List Ty
 r:Ty
 g:HL ps->Option r.den
def ExtOk(P:Program)(e:Ext):Prop:=∀x y,e.g x=some y->∀(F:Nat->Prop) (w:World) (vs:List Value),RdL F w e.ps x vs->∃v,(callFunc e.f vs.toArray).run P w=.ok (.value v) w/\RdV F w e.r y v
def qt7:List Ext->FuncId->Option Ext
 | [],_=>none
 | e::r,f=>bif Nat.beq e.f f then some e else qt7 r f
def qz1(P:Program):List Ext->Prop
 | []=>True
 | e::r=>ExtOk P e/\qz1 P r
theorem qto{P:Program}:∀ {l:List Ext} {f:FuncId} {e:Ext},qz1 P l->qt7 l f=some e->ExtOk P e/\e.f=f
 | [],_,_,_,h=>by cases h
 | x::l,f,e,⟨h0,h1⟩,h=>by
  have h':(bif Nat.beq x.f f then some x else qt7 l f)=some e:=h;cases hb:Nat.beq x.f f with
  | true=>rw[hb] at h'; injection h' with h'; subst h'; exact⟨h0,zc hb⟩
  | false=>rw[hb] at h'; exact qto h1 h'
structure Cx where
 Γ:List TI
 ow:List Nat
 fs:List Fun
 N:Nat
 xs:List Ext:=[]
def qkc(C:Cx)(st:St)(d:Nat)(f:FuncId)(ks:List Key)(ss:List SV):Option OR:=
 match qvB C.fs f with
 | some e=>match qrH e st C.N d ks (qnq C.fs e.ji.regs ss) with
  | some r=>some ⟨true,CT e.jo.ct,CT.dflt _,e.tw r.x,r.rd,r.wr⟩
  | none=>none
 | none=>none
def evExt(C:Cx)(st:St)(d:Nat)(e:Ext)(xs:List Operand):Option OR:=
 match hlOf e.ps (xs.map st.ev) with
 | some x=>bif Nat.blt d C.N then some ⟨true,e.r.den,e.r.dflt,e.g x,qnp xs,fun y=>[.r d (.v e.r y)]⟩ else none
 | none=>none
def qz2(C:Cx)(st:St)(d t:Nat)(xs:List Operand):Option OR:=
 match st.r t with
 | .clo f cells=>qkc C st d f (.r t::qnp xs) (xs.map st.ev++cells)
 | .v (.fnc f) _=>qkc C st d f (.r t::qnp xs) (xs.map st.ev)
 | .v (.fnl fs) x=>match fnAt fs x with
  | some f=>qkc C st d f (.r t::qnp xs) (xs.map st.ev)
  | none=>none
 | .v (.clo f e) x=>qkc C st d f (.r t::qnp xs) (xs.map st.ev++[.sel e x 0])
 | _=>match qwM st C.N d t xs with
  | some r=>some ⟨true,r.σ,r.dflt,r.m,r.rd,r.wr⟩
  | none=>none
def CxOk(P:Program)(C:Cx):Prop:=qxA P C.fs/\qz1 P C.xs
def qwO(C:Cx)(st:St)(dst:Option Nat):Op->Option OR
 | .call ⟨.value (.func f),⟨xs⟩,_⟩=>match dst with
  | some d=>match qt7 C.xs f with
   | some e=>evExt C st d e xs
   | none=>qkc C st d f (qnp xs) (xs.map st.ev)
  | none=>none
 | .call ⟨.value (.tmp t),⟨xs⟩,_⟩=>match dst with
  | some d=>qz2 C st d t xs
  | none=>none
 | _=>none
def qCX:Option Nat->Nat
 | some d=>d+1000000
 | none=>999999
def qz3(Γ:List TI)(st:St)(op:Op):Option VR:=
 match qzM Γ st op with
 | some r=>some r
 | none=>qwK Γ st op
def qxB(C:Cx)(st:St)(dst:Option Nat)(op:Op):Option OR:=
 match evVal C.Γ st op with
 | some r=>match dst with
  | some d=>bif Nat.blt d C.N then some ⟨r.g,Unit,(),some (),r.rd,fun _=>[.r d r.s]⟩ else none
  | none=>some ⟨r.g,Unit,(),some (),r.rd,fun _=>[]⟩
 | none=>match evMem C.Γ C.ow st C.N dst op with
  | some r=>bif memN C.ow (qCX dst) then(match frzW r.wr with
    | some wr=>some ⟨r.g,Unit,(),some (),r.rd,fun _=>wr⟩
    | none=>none) else some ⟨r.g,Unit,(),some (),r.rd,fun _=>r.wr⟩
  | none=>match qz3 C.Γ st op with
   | some r=>match dst with
    | some d=>bif Nat.blt d C.N then some ⟨r.g,Unit,(),some (),r.rd,fun _=>[.r d r.s]⟩ else none
    | none=>none
   | none=>match qwL C.Γ st C.N dst op with
    | some r=>some ⟨r.g,Unit,(),some (),r.rd,fun _=>r.wr⟩
    | none=>qwO C st dst op
/-! ### What was frozen is read under its elder names -/
structure CvE where
 t:Nat
 z:Nat
 b:Nat
 τ:Ty
 x:τ.den
def findZ(st:St)(b:Nat):Nat->Option (Nat×((τ:Ty)×τ.den))
 | 0=>none
 | n+1=>match st.r n with
  | .fzd b' τ x=>bif Nat.beq b' b then some (n,⟨τ,x⟩) else findZ st b n
  | _=>findZ st b n
theorem qpV{st:St}{b:Nat}:∀ {n z:Nat} {τ:Ty} {x:τ.den},findZ st b n=some (z,⟨τ,x⟩)->st.r z=.fzd b τ x
 | 0,z,τ,x,h=>by cases h
 | n+1,z,τ,x,h=>by
  unfold findZ at h;split at h
  ·rename_i b' τ' x' hr;cases hb:Nat.beq b' b with
   | true=>
    rw[hb] at h;have:=zc hb;subst this;cases h;exact hr
   | false=>rw[hb] at h; exact qpV h
  ·exact qpV h
def convL(st:St)(N:Nat):Nat->List CvE
 | 0=>[]
 | n+1=>match st.r n with
  | .own b=>match findZ st b N with
   | some (z,⟨τ,x⟩)=>⟨n,z,b,τ,x⟩::convL st N n
   | none=>convL st N n
  | _=>convL st N n
def convW(l:List CvE):List Wr:=l.map fun p=>.r p.t (.v p.τ p.x)
def convK(l:List CvE):List Key:=l.flatMap fun p=>[.r p.t,.r p.z]
def cvKey:Option Nat->Nat
 | some d=>d+2000000
 | none=>1999999
def evOne(C:Cx)(st:St)(dst:Option Nat)(op:Op):Option OR:=
 bif memN C.ow (cvKey dst) then(match qxB C (st.app (convW (convL st C.N C.N))) dst op with
  | some q=>some ⟨q.g,q.σ,q.dflt,q.m,convK (convL st C.N C.N)++q.rd,fun x=>convW (convL st C.N C.N)++q.wr x⟩
  | none=>none)
 else qxB C st dst op
/-! ### Guards: the two ways part -/
def qrL(want:Bool)(b:Bool):Bool:=bif want then b else !b
def runOp{A:Type}(C:Cx)(o:Oper)(ks:List Key)(feet:List (List Key×List Key))(su sr:St)(k:List (List Key×List Key)->St->St->Option A):Option A:=
 match evOne C sr o.dst o.op with
 | none=>none
 | some q=>gd q.g (q.m.bind fun x=>k (feet++[(ks++q.rd,wkeys (q.wr x))]) (su.app (q.wr x)) (sr.app (q.wr x)))
def qxC{A:Type}(gs d:Nat)(feet:List (List Key×List Key))(su sr:St)(k:List (List Key×List Key)->St->St->Option A):Option A:=
 k (feet++[([.r gs],[.r d])]) (su.put (.r d (.raw undef))) (sr.put (.r d (.raw undef)))
def isU:SV->Bool
 | .raw (.tuple ⟨[]⟩)=>true
 | _=>false
def ixKey:Option Nat->Nat
 | some d=>d+4000000
 | none=>3999999
def ixOp:Op->Option (TypeId×Operand×Nat)
 | .indexAddr t x (.tmp s)=>some (t,x,s)
 | _=>none
def qCY(Γ:List TI)(t:TypeId):Nat:=match look Γ t with
 | some i=>match i.desc with
  | .array n _=>n
  | _=>0
 | none=>0
def fnOp:Op->Option Nat
 | .call ⟨.value (.tmp t),_,_⟩=>some t
 | _=>none
def qz4{A:Type}(C:Cx)(o:Oper)(t:Nat)(fs:List Nat)(x:Nat)(feet:List (List Key×List Key))(su sr:St)(k:List (List Key×List Key)->St->St->Option A):List Nat->Option A
 | []=>none
 | j::l=>bif decide (x=j+1) then runOp C o [] feet (su.put (.r t (.v (.fnl fs) (j+1:Nat)))) (sr.put (.r t (.v (.fnl fs) (j+1:Nat)))) k
  else qz4 C o t fs x feet su sr k l
def SV.fnl?:SV->Option (List Nat×Nat)
 | .v (.fnl fs) x=>some (fs,x)
 | _=>none
theorem qEA{s:SV}{fs:List Nat}{x:Nat}(h:s.fnl? = some (fs,x)):s=.v (.fnl fs) x:=by
 unfold SV.fnl? at h;split at h
 ·injection h with h; injection h with e1 e2; subst e1 e2; rfl
 ·cases h
def qz5{A:Type}(C:Cx)(d:Nat)(t:TypeId)(x:Operand)(s:Nat)(K:IntKind)(m:Int)(feet:List (List Key×List Key))(su sr:St)(k:List (List Key×List Key)->St->St->Option A):List Nat->Option A
 | []=>none
 | j::l=>bif decide (m=(j:Int)) then(match qqZ C.Γ sr t x (.const (.int K (j:Int))) with
   | some r=>gd r.g (k (feet++[([.r s]++r.rd,wkeys [.r d r.s])]) (su.put (.r d r.s)) (sr.put (.r d r.s)))
   | none=>none) else qz5 C d t x s K m feet su sr k l
def evOps{A:Type}(C:Cx)(draw:Bool)(all:List Oper):List Oper->List (List Key×List Key)->St->St->(St->Option A)->Option A
 | [],feet,su,_,k=>bif !draw || qos all feet then k su else none
 | o::rest,feet,su,sr,k=>match o.guard with
  | none=>bif memN C.ow (ixKey o.dst) then(match o.dst,ixOp o.op with
    | some d,some (t,x,s)=>match(sr.r s).int? with
     | some (K,m)=>bif Nat.blt d C.N then qz5 C d t x s K m feet su sr (fun feet su sr=>evOps C draw all rest feet su sr k) (List.range (qCY C.Γ t)) else none
     | none=>none
    | some d,none=>match fnOp o.op with
     | some t=>match(sr.r t).fnl? with
      | some (fs,x)=>bif Nat.blt d C.N then qz4 C o t fs x feet su sr (fun feet su sr=>evOps C draw all rest feet su sr k) (List.range fs.length) else none
      | none=>none
     | none=>none
    | _,_=>none) else runOp C o [] feet su sr fun feet su sr=>evOps C draw all rest feet su sr k
  | some (j,want)=>match(all[j]?).bind (·.dst),o.dst with
   | some gs,some d=>match(sr.r gs).bool? with
    | some b=>bif Nat.blt gs C.N&&Nat.blt d C.N then
      bif b then(bif qrL want true then runOp C o [.r gs] feet (su.put (.r gs (.v .bool true))) (sr.put (.r gs (.v .bool true))) fun feet su sr=>evOps C draw all rest feet su sr k
       else qxC gs d feet (su.put (.r gs (.v .bool true))) (sr.put (.r gs (.v .bool true))) fun feet su sr=>evOps C draw all rest feet su sr k)
      else(bif qrL want false then runOp C o [.r gs] feet (su.put (.r gs (.v .bool false))) (sr.put (.r gs (.v .bool false))) fun feet su sr=>evOps C draw all rest feet su sr k
       else qxC gs d feet (su.put (.r gs (.v .bool false))) (sr.put (.r gs (.v .bool false))) fun feet su sr=>evOps C draw all rest feet su sr k)
     else none
    | none=>bif isU (sr.r gs)&&(Nat.blt gs C.N&&Nat.blt d C.N) then qxC gs d feet su sr fun feet su sr=>evOps C draw all rest feet su sr k else none
   | _,_=>none
section
variable {P:Program} {w0:World} {M:Mod} {F0:Nat->Prop} {ops:Array Oper} {C:Cx}
variable {F:Nat->Prop} {ρ:Env} {st:St} {a:Act} {w:World} {rty:TypeId}
theorem qyJ(hfs:CxOk P C){dst:Option Nat}{op:Op}{q:OR}(h:qwO C st dst op=some q){x:q.σ}(hm:q.m=some x)(pos:String)(af:Array Edge):
  RT P w0 M C.N F0 ops ⟨dst,op,rty,pos,af,none⟩ st q.rd (q.wr x):=by
 have key:∀ {st':St} {a:Act} {w:World} {F:Nat->Prop} {ρ:Env} {d:Nat} {f:FuncId} {ks:List Key} {ss:List SV} {vs:List Value} {q:OR} {x:q.σ},qkc C st d f ks ss=some q->q.m=some x->(∀κ∈q.rd,agree st st' κ)->
   Rel' P w0 M C.N F ρ st' a w->((∀g,F0 g->F g)/\∀g,F g->F0 g\/M.blk g\/w0.heap.size<=g)->ss.length=vs.length->(∀(i:Nat) (s:SV) (u:Value),ss[i]? = some s->vs[i]? = some u->Den P F w ρ s u)->
   FnOk P f/\Calls P f vs.toArray w fun en w'=>∃rv,en=.returned rv/\Rel P w0 M C.N F0 (st'.app (q.wr x)) (a.put (some d) rv) w':=by
  intro st' a w F ρ d f ks ss vs q x h hm hag hr hF hl hd;unfold qkc at h;split at h
  ·rename_i e hf;split at h
   ·rename_i r hc;injection h with h; subst h
    obtain⟨he,rfl⟩:=qrK hfs.1 hf;obtain⟨d1,d2⟩:=qtn hr.mem.glob hfs.1 (l:=e.ji.regs) hl hd;exact⟨he.ok,qBL he hc hm hag hr hF d1 d2⟩
   ·cases h
  ·cases h
 have keys:∀ {d:Nat} {f:FuncId} {ks:List Key} {ss:List SV} {q:OR},qkc C st d f ks ss=some q->∀κ∈ks,κ∈q.rd:=by
  intro d f ks ss q h κ hκ;unfold qkc at h;split at h
  ·split at h
   ·rename_i r hc;injection h with h; subst h
    exact qyH hc κ hκ
   ·cases h
  ·cases h
 unfold qwO at h;split at h
 ·rename_i f xs ats;split at h
  ·rename_i d;split at h
   ·rename_i e he;obtain⟨hx,rfl⟩:=qto hfs.2 he;unfold evExt at h;split at h
    ·rename_i y hy;cases hb:Nat.blt d C.N with
     | false=>rw[hb] at h; cases h
     | true=>
      rw[hb] at h; injection h with h; subst h
      rw[zX] at hb;intro st' hag a w ⟨F,ρ,hr,hF⟩;rw[if_pos (qco rfl)];unfold Oper.wp;rw[execOp_call_go];have ee:(#[]++xs.toArray.map a.eval++#[]:Array Value)=(xs.map a.eval).toArray:=by simp
      obtain⟨v,q1,q2⟩:=hx y _ hm F w (xs.map a.eval) (qwN hy (by simp) (qgc hr (fun κ hκ=>hag κ hκ)))
      rw[ee,q1];exact⟨F,ρ,hr.setR hb (.v q2),hF⟩
    ·cases h
   intro st' hag a w ⟨F,ρ,hr,hF⟩;rw[if_pos (qco rfl)];unfold Oper.wp;rw[execOp_call_go];have ee:(#[]++xs.toArray.map a.eval++#[]:Array Value)=(xs.map a.eval).toArray:=by simp
   obtain⟨k1,k2⟩:=key (vs:=xs.map a.eval) h hm hag hr hF (by simp) (qgc hr (fun κ hκ=>hag κ (keys h κ hκ)))
   rw[ee,qgb k1];show Calls P f _ w _;refine k2.mono ?_
   rintro en w' ⟨rv,rfl,hrel⟩
   exact hrel
  ·cases h
 ·rename_i t xs ats;split at h
  ·rename_i d;unfold qz2 at h;split at h
   ·rename_i f cells hclo;intro st' hag a w ⟨F,ρ,hr,hF⟩;rw[if_pos (qco rfl)];have h0:=hr.regs t;rw[<-(hag (.r t) (keys h _ (by simp)):st.r t=st'.r t),hclo] at h0
    generalize hu:a.tmps.getD t undef=u at h0;cases h0 with
    | clo a1 a2=>
     rename_i caps;unfold Oper.wp;rw[qgR a (some d) t xs.toArray ats rty pos af none (show a.eval (.tmp t)=_ from hu)]
     have ee:(#[]++xs.toArray.map a.eval++caps.toArray:Array Value)=(xs.map a.eval++caps).toArray:=by simp
     obtain⟨k1,k2⟩:=key (vs:=xs.map a.eval++caps) h hm hag hr hF (by simp[a1]) (fun i s u hs hu=>by
      by_cases hi:i<(xs.map st.ev).length
      ·rw[zR hi] at hs;rw[zR (by simpa using hi)] at hu
       exact qgc hr (fun κ hκ=>hag κ (keys h κ (zO _ hκ))) i s u hs hu
      ·rw[zV (by omega)] at hs
       rw[zV (by simpa using hi)] at hu
       refine a2 _ s u hs ?_
       rw[z71] at hu ⊢; exact hu)
     rw[ee,qgb k1];show Calls P f _ w _;refine k2.mono ?_
     rintro en w' ⟨rv,rfl,hrel⟩
     exact hrel
   ·rename_i f x0 hclo;intro st' hag a w ⟨F,ρ,hr,hF⟩;rw[if_pos (qco rfl)];have h0:=hr.regs t;rw[<-(hag (.r t) (keys h _ (by simp)):st.r t=st'.r t),hclo] at h0
    generalize hu:a.tmps.getD t undef=u at h0;cases h0 with
    | v a1=>
     obtain⟨cs,a1,rfl⟩:=a1;have a1':cs=[.func (.func f) #[] #[]]:=a1;subst a1';unfold Oper.wp;rw[qgR a (some d) t xs.toArray ats rty pos af none (show a.eval (.tmp t)=.func (.func f) #[] #[] from hu)]
     have ee:(#[]++xs.toArray.map a.eval++#[]:Array Value)=(xs.map a.eval).toArray:=by simp
     obtain⟨k1,k2⟩:=key (vs:=xs.map a.eval) h hm hag hr hF (by simp) (qgc hr (fun κ hκ=>hag κ (keys h κ (zO _ hκ))))
     rw[ee,qgb k1];show Calls P f _ w _;refine k2.mono ?_
     rintro en w' ⟨rv,rfl,hrel⟩
     exact hrel
   ·rename_i fs0 x0 hclo;split at h
    case' h_2=>cases h
    rename_i f hat;intro st' hag a w ⟨F,ρ,hr,hF⟩;rw[if_pos (qco rfl)];have h0:=hr.regs t;rw[<-(hag (.r t) (keys h _ (by simp)):st.r t=st'.r t),hclo] at h0
    generalize hu:a.tmps.getD t undef=u at h0;cases h0 with
    | v a1=>
     obtain⟨cs,a1,rfl⟩:=a1;have a1':cs=[.func (.func f) #[] #[]]:=(show cs=[fnVal fs0 x0] from a1).trans (congrArg (fun u=>[u]) (qxd hat))
     subst a1';unfold Oper.wp;rw[qgR a (some d) t xs.toArray ats rty pos af none (show a.eval (.tmp t)=.func (.func f) #[] #[] from hu)]
     have ee:(#[]++xs.toArray.map a.eval++#[]:Array Value)=(xs.map a.eval).toArray:=by simp
     obtain⟨k1,k2⟩:=key (vs:=xs.map a.eval) h hm hag hr hF (by simp) (qgc hr (fun κ hκ=>hag κ (keys h κ (zO _ hκ))))
     rw[ee,qgb k1];show Calls P f _ w _;refine k2.mono ?_
     rintro en w' ⟨rv,rfl,hrel⟩
     exact hrel
   ·rename_i f e x0 hclo;intro st' hag a w ⟨F,ρ,hr,hF⟩;rw[if_pos (qco rfl)];have h0:=hr.regs t;rw[<-(hag (.r t) (keys h _ (by simp)):st.r t=st'.r t),hclo] at h0
    generalize hu:a.tmps.getD t undef=u at h0;cases h0 with
    | v a1=>
     obtain⟨cs,a1,rfl⟩:=a1;obtain⟨ad,es,rfl,p1,p2,p3⟩:=a1;unfold Oper.wp;rw[qgR a (some d) t xs.toArray ats rty pos af none (show a.eval (.tmp t)=Value.func (.func f) #[] #[Value.pointer (some (Addr.add ad 0))] from hu)]
     have ee:(#[]++xs.toArray.map a.eval++#[Value.pointer (some (Addr.add ad 0))]:Array Value)=(xs.map a.eval++[Value.pointer (some (Addr.add ad 0))]).toArray:=by simp
     obtain⟨k1,k2⟩:=key (vs:=xs.map a.eval++[.pointer (some (Addr.add ad 0))]) h hm hag hr hF (by simp) (fun i s u hs hu=>by
      by_cases hi:i<(xs.map st.ev).length
      ·rw[zR hi] at hs;rw[zR (by simpa using hi)] at hu
       exact qgc hr (fun κ hκ=>hag κ (keys h κ (zO _ hκ))) i s u hs hu
      ·rw[zV (by omega)] at hs
       rw[zV (by simpa using hi)] at hu
       simp only[z71] at hs hu;cases hj:i-xs.length with
       | zero=>
        rw[hj] at hs hu;simp only[zt2,zn1] at hs hu;subst hs hu;exact .sel p1 p2 p3
       | succ n=>rw[hj] at hs; simp at hs)
     rw[ee,qgb k1];show Calls P f _ w _;refine k2.mono ?_
     rintro en w' ⟨rv,rfl,hrel⟩
     exact hrel
   ·split at h
    ·rename_i r hr;injection h with h; subst h
     exact qyI hr hm pos af
    ·cases h
  ·cases h
 ·cases h
theorem qz6(hΓ:Tys P C.Γ){op:Op}{r:VR}(h:qz3 C.Γ st op=some r)(hg:r.g=true):VOk P w0 M C.N st op rty r:=by
 unfold qz3 at h;split at h
 ·rename_i r' hv;injection h with h; subst h
  exact qzN hΓ hv
 ·exact qyD hΓ h hg
theorem qvC(hΓ:Tys P C.Γ)(hfs:CxOk P C){dst:Option Nat}{op:Op}{q:OR}(h:qxB C st dst op=some q)(hg:q.g=true){x:q.σ}(hm:q.m=some x)(pos:String)(af:Array Edge):
  RT P w0 M C.N F0 ops ⟨dst,op,rty,pos,af,none⟩ st q.rd (q.wr x):=by
 unfold qxB at h;split at h
 ·rename_i r hv;split at h
  ·rename_i d;cases hb:Nat.blt d C.N with
   | false=>rw[hb] at h; cases h
   | true=>
    rw[hb] at h; injection h with h; subst h
    rw[zX] at hb;exact RT.value rfl rfl hb fun st' hag F ρ a w hr=>qxi hΓ hv hg st' hag F ρ a w hr (some d) pos af none
  ·injection h with h; subst h
   intro st' hag a w ⟨F,ρ,hr,hF⟩;rw[if_pos (qco rfl)];obtain⟨u,h1,h2⟩:=qxi (M:=M) (w0:=w0) (N:=C.N) (rty:=rty) hΓ hv hg st' hag F ρ a w hr none pos af none;unfold Oper.wp;rw[h1];exact⟨F,ρ,hr,hF⟩
 ·split at h
  ·rename_i r hmem;cases hfz:memN C.ow (qCX dst) with
   | false=>
    rw[hfz] at h; injection h with h; subst h
    exact qxn hΓ hmem hg pos af
   | true=>
    rw[hfz] at h; simp only[za] at h;split at h
    ·rename_i wr hwr;injection h with h; subst h
     exact(qxn hΓ hmem hg pos af).frz hwr
    ·cases h
  ·split at h
   ·rename_i r hv;cases dst with
    | none=>cases h
    | some d=>
     cases hb:Nat.blt d C.N with
     | false=>simp only[hb] at h; cases h
     | true=>
      simp only[hb] at h; injection h with h; subst h
      rw[zX] at hb;exact RT.value rfl rfl hb fun st' hag F ρ a w hr=>qz6 hΓ hv hg st' hag F ρ a w hr (some d) pos af none
   ·split at h
    ·rename_i r hmem;injection h with h; subst h
     exact qyE hΓ hmem hg pos af
    ·exact qyJ hfs h hm pos af
theorem qmG{N:Nat}:∀ {n:Nat} {p:CvE},p∈convL st N n->st.r p.t=.own p.b/\st.r p.z=.fzd p.b p.τ p.x
 | 0,p,h=>by cases h
 | n+1,p,h=>by
  unfold convL at h;split at h
  ·rename_i b hb;split at h
   ·rename_i z τ x hz;rcases zw.1 h with rfl | h
    ·exact⟨hb,qpV hz⟩
    ·exact qmG h
   ·exact qmG h
  ·exact qmG h
theorem qxD{N:Nat}{ρ:Env}:∀ {l:List CvE} {st:St},Rel' P w0 M N F ρ st a w->(∀p∈l,Den P F w ρ (.v p.τ p.x) (a.tmps.getD p.t undef))->Rel' P w0 M N F ρ (st.app (convW l)) a w
 | [],_,h,_=>h
 | p::l,st,h,hd=>qxD (l:=l) (h.reR (t:=p.t) (s:=.v p.τ p.x) (hd p (by simp))) fun q hq=>hd q (zO _ hq)
theorem RT.conv{N:Nat}{o:Oper}{rd:List Key}{wr:List Wr}{l:List CvE}(hl:∀p∈l,st.r p.t=.own p.b/\st.r p.z=.fzd p.b p.τ p.x)(h:RT P w0 M N F0 ops o (st.app (convW l)) rd wr):RT P w0 M N F0 ops o st (convK l++rd) (convW l++wr):=by
 intro st' hag a w hr;have hr2:Rel P w0 M N F0 (st'.app (convW l)) a w:=by
  obtain⟨F,ρ,hr,hF⟩:=hr;refine⟨F,ρ,qxD hr fun p hp=>?_,hF⟩
  obtain⟨h1,h2⟩:=hl p hp;have k1:st'.r p.t=.own p.b:=by
   rw[<-h1];exact(hag (.r p.t) (mem_l (z52.2 ⟨p,hp,by simp⟩))).symm
  have k2:st'.r p.z=.fzd p.b p.τ p.x:=by
   rw[<-h2];exact(hag (.r p.z) (mem_l (z52.2 ⟨p,hp,by simp⟩))).symm
  have d1:=hr.regs p.t;have d2:=hr.regs p.z;rw[k1] at d1;rw[k2] at d2;cases d1 with
  | own e1=>cases d2 with
   | fzd e2 e3=>
    rw[e2] at e1; injection e1 with e1
    rw[<-e1]; exact .v e3
 have h1:=h (st'.app (convW l)) (fun κ hκ=>qlu _ (hag κ (mem_r hκ))) a w hr2
 rw[qcm];exact h1
theorem qBM(hΓ:Tys P C.Γ)(hfs:CxOk P C){dst:Option Nat}{op:Op}{q:OR}(h:evOne C st dst op=some q)(hg:q.g=true){x:q.σ}(hm:q.m=some x)(pos:String)(af:Array Edge):
  RT P w0 M C.N F0 ops ⟨dst,op,rty,pos,af,none⟩ st q.rd (q.wr x):=by
 unfold evOne at h;generalize memN C.ow (cvKey dst)=c at h;cases c with
 | false=>exact qvC hΓ hfs h hg hm pos af
 | true=>
  simp only[za] at h;split at h
  ·rename_i q0 hq;injection h with h; subst h
   exact RT.conv (fun p hp=>qmG hp) (qvC hΓ hfs hq hg hm pos af)
  ·cases h
theorem qrM{o:Oper}{j gs:Nat}{want gb:Bool}(hg:o.guard=some (j,want))(hj:(ops[j]?).bind (·.dst)=some gs)(hs:gs<a.tmps.size)(hv:a.tmps.getD gs undef=.bool gb):
  Region.wanted o (yielded ops a.tmps)=qrL want gb:=by
 have h1:a.tmps[gs]? = some (.bool gb):=by
  rw[zt1 hs]; congr 1;simpa[z41,zt1 hs] using hv
 have:Region.wanted o (yielded ops a.tmps)=(gb==want):=by simp[Region.wanted,hg,yielded,hj,h1]
 rw[this];cases gb <;> cases want <;> rfl
theorem RT.guardT{N:Nat}{o:Oper}{j gs:Nat}{want v:Bool}{rd:List Key}{wr:List Wr}(h:RT P w0 M N F0 ops { o with guard:=none } st rd wr)(hgd:o.guard=some (j,want))
  (hj:(ops[j]?).bind (·.dst)=some gs) (hgs:gs<N) (hv:st.r gs=.v .bool v) (hc:qrL want v=true):RT P w0 M N F0 ops o st ([.r gs]++rd) wr:=by
 intro st' hag a w ⟨F,ρ,hr,hF⟩;have h0:=hr.regs gs;rw[<-(hag (.r gs) (by simp):st.r gs=st'.r gs),hv] at h0
 have hw:=qrM (a:=a) hgd hj (by rw[hr.sz]; exact hgs) (h0.bool rfl)
 rw[hw,hc,if_pos rfl];have h4:=h st' (fun κ hκ=>hag κ (by simp[hκ])) a w ⟨F,ρ,hr,hF⟩
 rw[if_pos (qco rfl)] at h4;exact h4
theorem RT.guardF{N:Nat}{o:Oper}{j gs d:Nat}{want v:Bool}(hdst:o.dst=some d)(hgd:o.guard=some (j,want))
  (hj:(ops[j]?).bind (·.dst)=some gs) (hd:d<N) (hgs:gs<N) (hv:st.r gs=.v .bool v) (hc:qrL want v=false):RT P w0 M N F0 ops o st [.r gs] [.r d (.raw undef)]:=by
 intro st' hag a w ⟨F,ρ,hr,hF⟩;have h0:=hr.regs gs;rw[<-(hag (.r gs) (by simp):st.r gs=st'.r gs),hv] at h0
 have hw:=qrM (a:=a) hgd hj (by rw[hr.sz]; exact hgs) (h0.bool rfl)
 rw[hw,hc,if_neg (by simp),hdst]
 exact⟨F,ρ,hr.setR hd (.raw _),hF⟩
theorem RT.guardU{N:Nat}{o:Oper}{j gs d:Nat}{want:Bool}(hdst:o.dst=some d)(hgd:o.guard=some (j,want))
  (hj:(ops[j]?).bind (·.dst)=some gs) (hd:d<N) (hgs:gs<N) (hv:isU (st.r gs)=true):RT P w0 M N F0 ops o st [.r gs] [.r d (.raw undef)]:=by
 intro st' hag a w ⟨F,ρ,hr,hF⟩;have h0:=hr.regs gs;rw[<-(hag (.r gs) (by simp):st.r gs=st'.r gs)] at h0
 have h5:a.tmps.getD gs undef=undef:=by
  unfold isU at hv;split at hv
  ·rename_i e; rw[e] at h0; generalize a.tmps.getD gs undef=u at h0 ⊢; cases h0; rfl
  ·cases hv
 have hs:gs<a.tmps.size:=by rw[hr.sz]; exact hgs
 have h6:a.tmps[gs]? = some undef:=by
  rw[zt1 hs]; congr 1;simpa[z41,zt1 hs] using h5
 have hw:Region.wanted o (yielded ops a.tmps)=false:=by simp[Region.wanted,hgd,yielded,hj,h6,undef]
 rw[hw,if_neg (by simp),hdst]
 exact⟨F,ρ,hr.setR hd (.raw _),hF⟩
theorem qxE{gs:Nat}{s:SV}(h:st.r gs=s):st.put (.r gs s)=st:=by
 show{ st with r:=fun t=>bif Nat.beq t gs then s else st.r t }=st
 have:(fun t=>bif Nat.beq t gs then s else st.r t)=st.r:=by
  funext t;cases hb:Nat.beq t gs with
  | true=>rw[zc hb]; exact h.symm
  | false=>rfl
 rw[this]
theorem qDB{s:SV}{b:Bool}(h:s.bool? = some b):s=.v .bool b:=by
 unfold SV.bool? at h;split at h
 ·injection h with h; subst h; rfl
 ·cases h
theorem qoJ{A:Type}(hΓ:Tys P C.Γ)(hfs:CxOk P C){draw:Bool}{all:List Oper}(hall:all.toArray=ops){R:St->St->Prop}(hR:∀su sr x,R su sr->R (su.put x) (sr.put x)){st0:St}{k:St->Option A}{v:A}:
  ∀(rest:List Oper) (feet:List (List Key×List Key)) (su sr:St),R su sr->evOps C draw all rest feet su sr k=some v->G P w0 M C.N F0 draw ops st0 feet rest sr (fun sr'=>∃su',R su' sr'/\k su'=some v)
 | [],feet,su,sr,hr,h=>by
  simp only[evOps] at h;cases hd:draw with
  | false=>rw[hd] at h; exact G.done ⟨su,hr,h⟩
  | true=>
   rw[hd] at h;cases hrf:qos all feet with
   | false=>rw[hrf] at h; cases h
   | true=>rw[hrf] at h; exact G.drawn (by rw[<-hall]; exact hrf) ⟨su,hr,h⟩
 | o::rest,feet,su,sr,hr,h=>by
  have hRapp:∀(l:List Wr) (su sr:St),R su sr->R (su.app l) (sr.app l):=by
   intro l;induction l with
   | nil=>intro _ _ h; exact h
   | cons x l ih=>intro su sr h; exact ih _ _ (hR su sr x h)
  -- an operation that runs
  have run:∀(ks:List Key) (su:St),R su sr->(∀ {rd:List Key} {wr:List Wr},RT P w0 M C.N F0 ops { o with guard:=none } sr rd wr->RT P w0 M C.N F0 ops o sr (ks++rd) wr)->
    runOp C o ks feet su sr (fun feet su sr=>evOps C draw all rest feet su sr k)=some v->G P w0 M C.N F0 draw ops st0 feet (o::rest) sr (fun sr'=>∃su',R su' sr'/\k su'=some v):=by
   intro ks su hr hrt h;unfold runOp at h;split at h
   ·cases h
   ·rename_i q hq;obtain⟨hg,h⟩:=qz0 h;obtain⟨x,hm,h⟩:=zV2.1 h;exact G.step (hrt (qBM (rty:=o.type) hΓ hfs hq hg hm o.pos o.after)) (qoJ hΓ hfs hall hR rest _ _ _ (hRapp _ _ _ hr) h)
  unfold evOps at h;split at h
  ·rename_i hgd;generalize memN C.ow (ixKey o.dst)=mk at h;cases mk with
   | true=>
    simp only[za] at h;split at h
    ·rename_i d t x s hdst hop;split at h
     ·rename_i K m hint;cases hd:Nat.blt d C.N with
      | false=>rw[hd] at h; cases h
      | true=>
       rw[hd] at h; simp only[za] at h;rw[zX] at hd;generalize List.range (qCY C.Γ t)=js at h;induction js with
       | nil=>cases h
       | cons j l ih=>
        simp only[qz5] at h;cases hj:decide (m=(j:Int)) with
        | false=>rw[hj] at h; exact ih h
        | true=>
         rw[hj] at h; simp only[za] at h;have hmj:=zi hj;split at h
         ·rename_i r hx;obtain⟨hg,h⟩:=qz0 h;refine G.step (rd:=[.r s]++r.rd) (wr:=[.r d r.s]) ?_ (qoJ hΓ hfs hall hR rest _ _ _ (hR _ _ _ hr) h)
          have ho:o=⟨some d,.indexAddr t x (.tmp s),o.type,o.pos,o.after,none⟩:=by
           obtain⟨dst,op,ty,pos,af,g⟩:=o;simp only at hgd hdst hop ⊢;subst hgd hdst;unfold ixOp at hop;split at hop
           ·injection hop with hop; injection hop with e1 e2; injection e2 with e2 e3; subst e1 e2 e3; rfl
           ·cases hop
          rw[ho];refine RT.value (s:=r.s) rfl rfl hd fun st' hag F ρ a w hr=>?_
          have hs:=(hr.regs s);rw[<-(hag (.r s) (by simp):sr.r s=st'.r s)] at hs
          have he:a.eval (.tmp s)=.int K (j:Int):=by rw[<-hmj]; exact hs.int hint
          obtain⟨u,h1,h2⟩:=qri (M:=M) (w0:=w0) (N:=C.N) (rty:=o.type) hΓ hx hg st' (fun κ hκ=>hag κ (by simp[hκ])) F ρ a w hr (some d) o.pos o.after none
          refine⟨u,?_,h2⟩
          rw[<-h1];have hc:a.eval (.const (.int K (j:Int)))=.int K (j:Int):=rfl;simp only[execOp,he,hc]
         ·cases h
     ·cases h
    ·rename_i d hdst hop;split at h
     ·rename_i t ht;split at h
      ·rename_i fs x hfx;cases hd:Nat.blt d C.N with
       | false=>rw[hd] at h; cases h
       | true=>
        rw[hd] at h; simp only[za] at h;have hsr:=qEA hfx;generalize List.range fs.length=js at h;induction js with
        | nil=>cases h
        | cons j l ih=>
         simp only[qz4] at h;cases hj:decide (x=j+1) with
         | false=>rw[hj] at h; exact ih h
         | true=>
          rw[hj] at h; simp only[za] at h;have hmj:=zi hj;subst hmj;have hr2:=hR su sr (.r t (.v (.fnl fs) (j+1:Nat))) hr;rw[qxE hsr] at h hr2;refine run [] _ hr2 (fun{rd wr} hh=>?_) h
          have e:{ o with guard:=none }=o:=by obtain⟨_,_,_,_,_,_⟩:=o; simp only at hgd; subst hgd; rfl
          rw[e] at hh; exact hh
      ·cases h
     ·cases h
    ·cases h
   | false=>
   simp only[zb] at h;refine run [] su hr (fun{rd wr} hh=>?_) h
   have e:{ o with guard:=none }=o:=by obtain⟨_,_,_,_,_,_⟩:=o; simp only at hgd; subst hgd; rfl
   rw[e] at hh; exact hh
  ·rename_i j want hgd;split at h
   ·rename_i gs d hj hdst;have hj':(ops[j]?).bind (·.dst)=some gs:=by rw[<-hall,List.getElem?_toArray]; exact hj
    split at h
    ·rename_i b hb;have hsr:=qDB hb;cases hN:(Nat.blt gs C.N&&Nat.blt d C.N) with
     | false=>rw[hN] at h; cases h
     | true=>
      rw[hN] at h; simp only[za] at h;rw[z8,zX,zX] at hN;have both:∀v0:Bool,b=v0->(bif qrL want v0 then runOp C o [.r gs] feet (su.put (.r gs (.v .bool v0))) (sr.put (.r gs (.v .bool v0))) fun feet su sr=>evOps C draw all rest feet su sr k
        else qxC gs d feet (su.put (.r gs (.v .bool v0))) (sr.put (.r gs (.v .bool v0))) fun feet su sr=>evOps C draw all rest feet su sr k)=some v->G P w0 M C.N F0 draw ops st0 feet (o::rest) sr (fun sr'=>∃su',R su' sr'/\k su'=some v):=by
       intro v0 hv0 h;subst hv0;have hr2:=hR su sr (.r gs (.v .bool b)) hr;rw[qxE hsr] at h hr2;cases hc:qrL want b with
       | true=>
        rw[hc] at h; simp only[za] at h;exact run [.r gs] _ hr2 (fun hh=>RT.guardT hh hgd hj' hN.1 hsr hc) h
       | false=>
        rw[hc] at h; simp only[zb] at h;exact G.step (RT.guardF hdst hgd hj' hN.2 hN.1 hsr hc) (qoJ hΓ hfs hall hR rest _ _ _ (hR _ _ _ hr2) h)
      cases hbb:b with
      | true=>rw[hbb] at h; exact both true hbb h
      | false=>rw[hbb] at h; exact both false hbb h
    ·cases hu:(isU (sr.r gs)&&(Nat.blt gs C.N&&Nat.blt d C.N)) with
     | false=>rw[hu] at h; cases h
     | true=>
      rw[hu] at h; simp only[za] at h;rw[z8,z8,zX,zX] at hu;exact G.step (RT.guardU hdst hgd hj' hu.2.2 hu.2.1 hu.1) (qoJ hΓ hfs hall hR rest _ _ _ (hR _ _ _ hr) h)
   ·cases h
end
end Go.Sq
