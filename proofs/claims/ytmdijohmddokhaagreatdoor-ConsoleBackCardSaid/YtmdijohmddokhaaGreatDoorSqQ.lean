/- The second engine, part Q: the call of a function that has a contract. No condition. -/
import Derived.Test.YtmdijohmddokhaaGreatDoorSqP
namespace Go.Sq
open Go Go.RowKit
/-! ### What stands for the names of a shape -/
def pair1:Sh1->SV->List (Nat×Nat)
 | .ptr b _,.ptr b' _=>[(b,b')]
 | .own b,.own b'=>[(b,b')]
 | .ael b _,.ael b' _ _ _=>[(b,b')]
 | _,_=>[]
def pairL:List Sh1->List SV->List (Nat×Nat)
 | h::r,s::l=>pair1 h s++pairL r l
 | _,_=>[]
def qEz:Sh->SV->List (Nat×Nat)
 | .one h,s=>pair1 h s
 | .agg l,.agg cs=>pairL l cs
 | _,_=>[]
def qxt(st:St):List (Nat×Sh)->List (Nat×Nat)
 | []=>[]
 | (t,s)::r=>qEz s (st.r t)++qxt st r
def lookN:List (Nat×Nat)->Nat->Nat
 | [],b=>b
 | (x,y)::r,b=>bif Nat.beq b x then y else lookN r b
def qxu(st:St):List (Nat×TypeId×List Sh1)->List (Nat×Nat)->List (Nat×Nat)
 | [],ps=>ps
 | (b,_,l)::r,ps=>qxu st r (ps++pairL l (qbq st (lookN ps b) 0 l.length))
def J.pairs(j:J)(st:St):List (Nat×Nat):=qxu st j.vars (qxt st j.regs)
def J.ren(j:J)(st:St):Nat->Nat:=lookN (j.pairs st)
def qt1:Sh1->Bool
 | .keep=>false
 | _=>true
def qt2:List (Nat×Sh)->Bool
 | []=>true
 | (_,.one .keep)::_=>false
 | _::r=>qt2 r
def J.noKeep(j:J):Bool:=qt2 j.regs&&j.vars.all (fun p=>p.2.2.all qt1)
theorem qzX{j:J}{κ:St}(h:j.noKeep=true):j.keepOk κ=true:=by
 unfold J.noKeep at h;rw[z8] at h;unfold J.keepOk;rw[z8];refine⟨?_,?_⟩
 ·have:∀l:List (Nat×Sh),qt2 l=true->keepR κ l=true:=by
   intro l;induction l with
   | nil=>intro _; rfl
   | cons p l ih=>
    obtain⟨t,s⟩:=p;intro hl;unfold qt2 at hl;split at hl
    ·rename_i e; cases e
    ·cases hl
    ·rename_i hno e;injection e with e1 e2; subst e1 e2
     unfold keepR;split
     ·rename_i e; cases e
     ·rename_i e; injection e with e1 e2; injection e1 with e1 e3; exact(hno _ (by rw[e3])).elim
     ·rename_i e; injection e with e1 e2; subst e2; exact ih hl
  exact this _ h.1
 ·have hc:∀(b:Nat) (l:List Sh1) (o:Nat),l.all qt1=true->keepC κ b o l=true:=by
   intro b l;induction l with
   | nil=>intro o _; rfl
   | cons s l ih=>
    intro o hl;simp only[z11,z8] at hl;cases s <;> first | exact ih _ hl.2 | (simp[qt1] at hl)
  have hv:∀l:List (Nat×TypeId×List Sh1),l.all (fun p=>p.2.2.all qt1)=true->keepV κ l=true:=by
   intro l;induction l with
   | nil=>intro _; rfl
   | cons p l ih=>
    obtain⟨b,ty,cs⟩:=p;intro hl;simp only[z11,z8] at hl;simp only[keepV,z8];exact⟨hc b cs 0 hl.1,ih hl.2⟩
  exact hv _ h.2
/-! ### Taking from states that agree -/
theorem qlA{π:Nat->Nat}{st st':St}{b b':Nat}:∀ {l:List Sh1} {o:Nat},(∀j,j<l.length->st.c b' (o+j)=st'.c b' (o+j))->qgP π st b b' o l=qgP π st' b b' o l
 | [],_,_=>rfl
 | s::l,o,h=>by
  have h0:=h 0 (by simp)
  rw[zP1] at h0;simp only[qgP,h0];have ih:=qlA (π:=π) (st:=st) (st':=st') (b:=b) (b':=b') (l:=l) (o:=o+1) (fun j hj=>by
   have h1:=h (j+1) (by simpa using hj)
   have e:o+(j+1)=o+1+j:=by omega
   rw[e] at h1; exact h1)
  rw[ih]
theorem qnm{π:Nat->Nat}{st st':St}:∀ {l:List (Nat×TypeId×List Sh1)},(∀p∈l,st.v (π p.1)=st'.v (π p.1)/\∀j,j<p.2.2.length->st.c (π p.1) j=st'.c (π p.1) j)->qgs π st l=qgs π st' l
 | [],_=>rfl
 | (b,ty,cs)::l,h=>by
  obtain⟨h1,h2⟩:=h (b,ty,cs) (by simp)
  simp only[qgs];rw[h1,qlA (st:=st) (st':=st') (l:=cs) (o:=0) (fun j hj=>by rw[zY]; exact h2 j hj),qnm (l:=l) (fun p hp=>h p (by simp[hp]))]
theorem qnn{π:Nat->Nat}{st st':St}:∀ {l:List (Nat×ObSh)},(∀p∈l,st.a (π p.1)=st'.a (π p.1))->qgt π st l=qgt π st' l
 | [],_=>rfl
 | (b,s)::l,h=>by
  simp only[qgt];rw[h (b,s) (by simp),qnn (l:=l) (fun p hp=>h p (by simp[hp]))]
theorem qno{π:Nat->Nat}{st st':St}(h:st.r=st'.r):∀ {l:List (Nat×Sh)},qiN π st l=qiN π st' l
 | []=>rfl
 | (t,s)::l=>by simp only[qiN,h,qno h (l:=l)]
theorem qoF{π:Nat->Nat}{st:St}:∀ {l:List (Nat×TypeId×List Sh1)} {cs:List SV},qgs π st l=some cs->∀b∈l.map (·.1),st.v (π b)≠none
 | [],_,_,b,hb=>by simp at hb
 | (b0,ty,sh)::l,cs,h,b,hb=>by
  simp only[qgs] at h;split at h
  ·rename_i ty' k hv;generalize (Nat.beq ty' ty&&Nat.beq k sh.length)=c at h;cases c with
   | false=>cases h
   | true=>
    simp only[za] at h;split at h
    ·split at h
     ·rename_i y hy;rcases zw.1 (by simpa using hb:b∈b0::l.map (·.1)) with rfl | hb
      ·rw[hv]; simp
      ·exact qoF hy b hb
     ·cases h
    ·cases h
  ·cases h
theorem qoG{π:Nat->Nat}{st:St}:∀ {l:List (Nat×ObSh)} {cs:List SV},qgt π st l=some cs->∀b∈l.map (·.1),st.a (π b)≠none
 | [],_,_,b,hb=>by simp at hb
 | (b0,s)::l,cs,h,b,hb=>by
  simp only[qgt] at h;split at h
  ·rename_i A hA;split at h
   ·split at h
    ·rename_i y hy;rcases zw.1 (by simpa using hb:b∈b0::l.map (·.1)) with rfl | hb
     ·rw[hA]; simp
     ·exact qoG hy b hb
    ·cases h
   ·cases h
  ·cases h
theorem qzY{j:J}{π:Nat->Nat}{st:St}{cs:List SV}(h:j.take π st=some cs):∀b∈j.names,st.present (π b):=by
 unfold J.take at h;split at h
 ·rename_i x y z hx hy hz;intro b hb;rcases zD.1 hb with hb | hb
  ·exact .inl (qoF hy b hb)
  ·exact .inr (qoG hz b hb)
 ·cases h
theorem qqq{kc:Nat->Nat->SV}{b:Nat}:∀ {l:List Sh1} {o:Nat} {cs:List SV},(qd9 kc b o l cs).1.length=l.length
 | [],_,_=>rfl
 | s::l,o,cs=>by simp only[qd9,zg,qqq]
theorem qqr{kc:Nat->Nat->SV}:∀ {l:List (Nat×TypeId×List Sh1)} {cs:List SV},noDup (l.map (·.1))=true->∀p∈l,lookV (qfd kc l cs).1 p.1=some (p.2.1,p.2.2.length)
 | (b,ty,sh)::l,cs,hd,p,hp=>by
  simp only[zh1,noDup,z8,zq] at hd;show(bif Nat.beq p.1 b then some (ty,(qd9 kc b 0 sh cs).1.length) else lookV (qfd kc l (qd9 kc b 0 sh cs).2).1 p.1)=_;rcases zw.1 hp with rfl | hp
  ·rw[qqq]; simp
  ·have hne:p.1≠b:=fun e=>by
    have:memN (l.map (·.1)) b=true:=qaU.2 (by rw[<-e]; exact zm1 hp)
    rw[hd.1] at this; cases this
   rw[bq hne]; exact qqr hd.2 p hp
theorem qvy{l l':List Nat}(h:noDup (l++l')=true):noDup l=true/\noDup l'=true/\∀b,b∈l->b∉l':=by
 induction l with
 | nil=>exact⟨rfl,h,fun b hb=>by cases hb⟩
 | cons x l ih=>
  simp only[zj1,noDup,z8,zq] at h;obtain⟨a1,a2,a3⟩:=ih h.2;have hx:x∉l++l':=fun hm=>by have:=qaU.2 hm; rw[h.1] at this; cases this
  simp only[zD,not_or] at hx;refine⟨by simp only[noDup,z8,zq]; exact⟨zJ.2 (fun e=>hx.1 (qaU.1 e)),a1⟩,a2,fun b hb=>?_⟩
  rcases zw.1 hb with rfl | hb
  ·exact hx.2
  ·exact a3 b hb
def qCV(π:Nat->Nat)(j:J):List Key:=(j.vars.flatMap fun p=>.v (π p.1)::qhF (π p.1) 0 p.2.2.length)++j.arrs.map fun p=>.a (π p.1)
def qnp:List Operand->List Key
 | []=>[]
 | x::r=>qac x++qnp r
theorem qtk:∀ {l:List Operand} {x:Operand},x∈l->∀κ∈qac x,κ∈qnp l
 | y::l,x,h,κ,hκ=>by
  rcases zw.1 h with rfl | h
  ·exact mem_l hκ
  ·exact mem_r (qtk h κ hκ)
def qbU(e:Fun):List Nat:=e.jo.names.filter fun b=>!memN e.ji.names b
def numb(d:Nat):Nat->List Nat->List (Nat×Nat)
 | _,[]=>[]
 | i,b::r=>(b,nm d i)::numb d (i+1) r
structure CR(e:Fun) where
 x:CT e.ji.ct
 rd:List Key
 wr:CT e.jo.ct->List Wr
def sigma(e:Fun)(π:Nat->Nat)(d:Nat):Nat->Nat:=fun b=>bif memN e.ji.names b then π b else lookN (numb d 0 (qbU e)) b
def qrG(e:Fun)(π:Nat->Nat)(d:Nat)(y:CT e.jo.ct):List Wr:=
 qgQ (e.ji.names.map π)++(((qbU e).map fun b=>.d (sigma e π d b))++(qkP (sigma e π d) (e.jo.put0 y) e.jo.vars++(qkQ (sigma e π d) (e.jo.put0 y) e.jo.arrs++[.r d ((resSV e.nr (e.jo.put0 y)).ren (sigma e π d))])))
def qjx(st:St)(ss:List SV):St:={ st with r:=nthS ss }
def qxv(e:Fun)(st:St)(N d n:Nat)(π:Nat->Nat):Bool:=
 Nat.blt d N&&Nat.beq n e.np&&e.ji.ok&&e.jo.ok&&e.ji.noKeep&&noDup (e.ji.names.map π)&&noDup (e.jo.names.map (sigma e π d))&&(qbU e).all (fun b=>!st.d (sigma e π d b))
def qn5(e:Fun)(st:St)(N d:Nat)(ss:List SV):Option (CR e):=
 match e.ji.pack (e.ji.ren (qjx st ss)) (qjx st ss) with
 | some x=>bif qxv e st N d ss.length (e.ji.ren (qjx st ss)) then
   some ⟨x,qCV (e.ji.ren (qjx st ss)) e.ji++(qbU e).map fun b=>.d (sigma e (e.ji.ren (qjx st ss)) d b),qrG e (e.ji.ren (qjx st ss)) d⟩ else none
 | none=>none
def used1:SV->List Nat
 | .own b=>[b]
 | _=>[]
def qoH:Sh->SV->List Nat
 | .one (.data _),.own b=>[b]
 | .one (.data _),.agg cs=>cs.flatMap used1
 | _,_=>[]
def used:List (Nat×Sh)->List SV->List Nat
 | (_,h)::r,s::l=>qoH h s++used r l
 | _,_=>[]
def read1(st:St):SV->SV
 | .own b=>match st.a b with
  | some (.arr _ e l)=>.v (.sl e) l
  | _=>.own b
 | s=>s
def qxw(st:St):Sh->SV->SV
 | .one (.data _),.own b=>read1 st (.own b)
 | .one (.data _),.agg cs=>.agg (cs.map (read1 st))
 | _,s=>s
def readL(st:St):List (Nat×Sh)->List SV->List SV
 | (_,h)::r,s::l=>qxw st h s::readL st r l
 | _,l=>l
def dropA(l:List Nat):List Wr:=l.map fun b=>.a b none
def isArr:Option Ob->Bool
 | some (.arr _ _ _)=>true
 | _=>false
def scalT:Ty->Bool
 | .sl _=>false
 | .map _ _=>false
 | .clo _ _=>false
 | .pair a b=>scalT a&&scalT b
 | .arr _ e=>scalT e
 | _=>true
def scal1:SV->Bool
 | .v τ _=>scalT τ
 | _=>false
def scalS:SV->Bool
 | .tup cs=>cs.all scal1
 | s=>scal1 s
def scal(s:SV):SV:=bif scalS s then s else .any
def borrow(e:Fun):Bool:=e.ji.vars.isEmpty&&e.ji.arrs.isEmpty&&e.jo.vars.isEmpty&&e.jo.arrs.isEmpty&&e.jo.regs.all fun p=>match p.2 with
 | .one (.data τ)=>scalT τ
 | _=>false
def qt3(e:Fun)(st:St)(N d:Nat)(ks:List Key)(ss:List SV):Option (CR e):=
 match qn5 e κ0 1 0 (readL st e.ji.regs ss) with
 | some r=>bif (readL st e.ji.regs ss).all closedA&&Nat.blt d N then some ⟨r.x,ks++(used e.ji.regs ss).map fun b=>.a b,fun y=>[.r d (scal ((κ0.app (r.wr y)).r 0))]⟩ else none
 | none=>none
def freeA:Option Ob->Option Ob
 | some A=>bif A.free then some A else none
 | none=>none
def SV.fr1(s:SV):SV:=bif s.free1 then s else .any
def SV.fr2:SV->SV
 | .agg cs=>.agg (cs.map SV.fr1)
 | s=>s.fr1
def SV.fr3:SV->SV
 | .tup cs=>.tup (cs.map SV.fr2)
 | s=>s.fr2
def lend1:Sh1->Bool
 | .data τ=>scalT τ
 | .own _=>true
 | _=>false
def lend(e:Fun):Bool:=e.ji.vars.isEmpty&&e.ji.arrs.isEmpty&&e.jo.vars.isEmpty&&(e.jo.arrs.all fun p=>match p.2 with
 | .arr _ τ=>τ.flat
 | _=>false)&&e.jo.regs.all fun p=>match p.2 with
 | .one s=>lend1 s
 | .agg l=>l.all lend1
def qdo(e:Fun):List Nat:=(qbU e).map fun b=>lookN (numb 0 0 (qbU e)) b
def qvz(nn:List Nat)(d:Nat)(s2:St):List Wr:=(nn.map fun b=>.d (b+d*16))++((nn.map fun b=>.a (b+d*16) (freeA (s2.a b)))++[.r d ((s2.r 0).fr3.ren (· + d*16))])
def qt4(e:Fun)(st:St)(N d:Nat)(ks:List Key)(ss:List SV):Option (CR e):=
 match qn5 e κ0 1 0 (readL st e.ji.regs ss) with
 | some r=>bif (readL st e.ji.regs ss).all closedA&&Nat.blt d N&&noDup (qdo e)&&(qdo e).all (fun b=>!st.d (b+d*16)) then
   some ⟨r.x,ks++(((used e.ji.regs ss).map fun b=>.a b)++(qdo e).map fun b=>.d (b+d*16)),fun y=>qvz (qdo e) d (κ0.app (r.wr y))⟩ else none
 | none=>none
def qrH(e:Fun)(st:St)(N d:Nat)(ks:List Key)(ss:List SV):Option (CR e):=
 bif (used e.ji.regs ss).all (fun b=>isArr (st.a b)) then
  bif borrow e&&!(used e.ji.regs ss).isEmpty then qt3 e st N d ks ss else bif lend e&&!(used e.ji.regs ss).isEmpty then qt4 e st N d ks ss else match qn5 e (st.app (dropA (used e.ji.regs ss))) N d (readL st e.ji.regs ss) with
  | some r=>some ⟨r.x,ks++(((used e.ji.regs ss).map fun b=>.a b)++r.rd),fun y=>dropA (used e.ji.regs ss)++r.wr y⟩
  | none=>none
 else none
section
variable {P:Program} {w0:World} {M:Mod} {N:Nat} {F0:Nat->Prop} {ops:Array Oper}
variable {F:Nat->Prop} {ρ:Env} {st:St} {a:Act} {w:World} {rty:TypeId}
theorem Den.res{κ:St}{s:SV}{u:Value}(h:Den P F w ρ s u):s.res κ=s:=by cases h <;> rfl
theorem Rel'.subs(κ:St)(h:Rel' P w0 M N F ρ st a w):Rel' P w0 M N F ρ (κ.sub st) a w:=by
 refine⟨h.fr,⟨h.mem.dom,?_,h.mem.arr,h.mem.sep,h.mem.own,h.mem.fb,h.mem.one,h.mem.glob⟩,h.lo,fun t=>?_,h.sz,h.df,h.pin⟩
 ·intro b ty k hv;obtain⟨g,arr,h1,h2,h3,h4⟩:=h.mem.var b ty k hv;exact⟨g,arr,h1,h2,h3,fun j x hj=>⟨by show Den P F w ρ ((st.c b j).res κ) x; rw[(h4 j x hj).1.res]; exact(h4 j x hj).1,(h4 j x hj).2⟩⟩
 ·show Den P F w ρ ((st.r t).res κ) _;rw[(h.regs t).res]; exact h.regs t
theorem qt5{l:List SV}{i:Nat}{s:SV}(h:l[i]? = some s):nthS l i=s:=by
 induction l generalizing i with
 | nil=>simp at h
 | cons x l ih=>
  cases i with
  | zero=>simpa[nthS] using h
  | succ i=>exact ih (by simpa using h)
theorem qvA{l:List SV}{i:Nat}(h:l.length<=i):nthS l i=.any:=by
 induction l generalizing i with
 | nil=>rfl
 | cons x l ih=>
  cases i with
  | zero=>simp at h
  | succ i=>exact ih (by simpa using h)
theorem qyG{st':St}{ss:List SV}{vs:List Value}(hr:Rel' P w0 M N F ρ st' a w)(hl:ss.length=vs.length)(hd:∀(i:Nat) (s:SV) (u:Value),ss[i]? = some s->vs[i]? = some u->Den P F w ρ s u):
  Rel' P w0 ⟨M.blk,fun _=>none⟩ vs.length F ρ { st' with r:=nthS ss } { tmps:=vs.toArray,defers:=[] } w:=by
 refine⟨hr.fr,hr.mem.congr rfl rfl rfl rfl,hr.lo,fun t=>?_,by simp,rfl,fun b v h=>by cases h⟩
 show Den P F w ρ (nthS ss t) _;by_cases ht:t<ss.length
 ·rw[qt5 (zk ht)];have h2:vs.toArray.getD t undef=vs[t]'(by omega):=by simp[z41,show t<vs.length by omega]
  rw[h2];exact hd t _ _ (zk ht) (zk (by omega))
 ·rw[qvA (by omega)]; exact .any _
theorem qq2{e:Fun}(c:FunOk P e){d:Nat}{ss:List SV}{vs:List Value}{r:CR e}{y:CT e.jo.ct}(h:qn5 e st N d ss=some r)(hy:e.tw r.x=some y){st':St}(hag:∀κ∈r.rd,agree st st' κ)
  (hr:Rel' P w0 M N F ρ st' a w) (hF:(∀g,F0 g->F g)/\∀g,F g->F0 g\/M.blk g\/w0.heap.size<=g) (hlen:ss.length=vs.length) (hden:∀(i:Nat) (s:SV) (u:Value),ss[i]? = some s->vs[i]? = some u->Den P F w ρ s u):
  Calls P e.f vs.toArray w fun en w'=>∃rv,en=.returned rv/\Rel P w0 M N F0 (st'.app (r.wr y)) (a.put (some d) rv) w':=by
 unfold qn5 at h;split at h
 ·rename_i x hx;generalize hπ:e.ji.ren (qjx st ss)=π at h hx;cases hok:qxv e st N d ss.length π with
  | false=>rw[hok] at h; cases h
  | true=>
   rw[hok] at h; injection h with h; subst h
   unfold qxv at hok;simp only[z8] at hok;obtain⟨⟨⟨⟨⟨⟨⟨k1,k2⟩,k3⟩,k4⟩,k5⟩,k6⟩,k7⟩,k8⟩:=hok;rw[zX] at k1;have k2:=zc k2;obtain⟨l,hl,hput⟩:=qxr hx
   -- the callee's frame
   have hfr:=qyG hr hlen hden;have htake:e.ji.take π { st' with r:=nthS ss }=some l:=by
    have hv:∀p∈e.ji.vars,(qjx st ss).v (π p.1)=st'.v (π p.1)/\∀j,j<p.2.2.length->(qjx st ss).c (π p.1) j=st'.c (π p.1) j:=by
     intro p hp;have hk:∀κ∈(.v (π p.1)::qhF (π p.1) 0 p.2.2.length:List Key),κ∈qCV π e.ji:=fun κ hκ=>mem_l (z52.2 ⟨p,hp,hκ⟩)
     refine⟨hag (.v (π p.1)) (mem_l (hk _ (by simp))),fun j hj=>?_⟩
     have:=hag (.c (π p.1) (0+j)) (mem_l (hk _ (zO _ (qgN hj))));rwa[zY] at this
    have ha:∀p∈e.ji.arrs,(qjx st ss).a (π p.1)=st'.a (π p.1):=fun p hp=>hag (.a (π p.1)) (mem_l (mem_r (zS.2 ⟨p,hp,rfl⟩)))
    unfold J.take at hl ⊢;rw[qno (st:={ st' with r:=nthS ss }) (st':=qjx st ss) rfl,<-qnm (st:=qjx st ss) (st':={ st' with r:=nthS ss }) hv,<-qnn (st:=qjx st ss) (st':={ st' with r:=nthS ss }) ha]
    exact hl
   have hrep:=(hfr.subs κ0).repack (κ:=κ0) (κ':=κ0) (kr:=fun _=>.any) (kc:=fun _ _=>.any) htake k3 k6 (fun b g hp=>by cases hp) (qzX k5) (fun t=>rfl) (fun b o=>rfl)
   rw[<-hput (fun _=>.any) (fun _ _=>.any)] at hrep
   have hpresπ:∀b∈e.ji.names,st'.present (π b):=fun b hb=>qzY htake b hb
   have hren:∀b,b∈e.ji.names->(ρ.ren π e.ji.names) b=ρ (π b):=fun b hb=>by unfold Env.ren; rw[if_pos hb]
   refine(c.run x y hy F w (ρ.ren π e.ji.names) vs (by rw[<-hlen]; exact k2) hrep.mem (fun i u hu=>?_)).mono ?_
   ·have:=hrep.regs i;have h2:vs.toArray.getD i undef=u:=by simp[z41,hu]
    rw[<-h2]; exact this
   rintro en w' ⟨rv,F',ρ',rfl,g1,g2,g3,g4,g5,g6,g7⟩
   -- in the caller
   have hin:∀g,InBlk (ρ.ren π e.ji.names) e.ji.names g->∃b v,b∈e.ji.names/\st'.present (π b)/\ρ (π b)=some v/\blkOf v=some g:=by
    rintro g ⟨b,v,hb,hv,hg⟩
    rw[hren b hb] at hv;exact⟨b,v,hb,hpresπ b hb,hv,hg⟩
   have hXlo:∀g,InBlk (ρ.ren π e.ji.names) e.ji.names g->M.blk g\/w0.heap.size<=g:=fun g hg=>by
    obtain⟨b,v,_,hp,hv,hbk⟩:=hin g hg; exact hr.lo _ v g hp hv hbk
   have hXF:∀g,F g->¬InBlk (ρ.ren π e.ji.names) e.ji.names g:=fun g hFg hg=>by
    obtain⟨b,v,_,hp,hv,hbk⟩:=hin g hg; exact hr.mem.own _ v g hp hv hbk hFg
   obtain⟨d1,d2,d3,d4,d5⟩:=qvx (e.ji.names.map π) st';have hdp:∀b,(st'.app (qgQ (e.ji.names.map π))).present b->b∉e.ji.names.map π/\st'.present b:=by
    intro b hp;unfold St.present at hp ⊢;rw[d4,d5] at hp;by_cases hb:b∈e.ji.names.map π
    ·rw[if_pos hb,if_pos hb] at hp; simp at hp
    ·rw[if_neg hb,if_neg hb] at hp; exact⟨hb,hp⟩
   have hXd:∀b v g,(st'.app (qgQ (e.ji.names.map π))).present b->ρ b=some v->blkOf v=some g->¬InBlk (ρ.ren π e.ji.names) e.ji.names g:=by
    intro b v g hp hv hg hX;obtain⟨b1,v1,m1,p1,r1,q1⟩:=hin g hX;obtain⟨hnb,hpb⟩:=hdp b hp;exact hnb (by rw[hr.mem.sep b (π b1) v v1 g hpb p1 hv r1 hg q1]; exact zm1 m1)
   have hmv:=(hr.dropAll (e.ji.names.map π)).move (F':=F') g1 hXd hXF g2 g3 g4.fb (fun g hg hlt=>(hXlo g hg).resolve_right (by omega))
   -- the names of what is new
   have hnew:∀b,b∈qbU e->b∈e.jo.names/\b∉e.ji.names:=by
    intro b hb;simp only[qbU,zg2,zq] at hb;exact⟨hb.1,fun hm=>by have:=qaU.2 hm; rw[hb.2] at this; cases this⟩
   have hinj:∀b b',b∈e.jo.names->b'∈e.jo.names->sigma e π d b=sigma e π d b'->b=b':=fun b b' hb hb' he=>qvv k7 b b' hb hb' he
   have hndj:noDup e.jo.names=true:=by unfold J.ok at k4; simp only[z8] at k4; exact k4.2
   have hndn:noDup ((qbU e).map (sigma e π d))=true:=by
    have key:∀l:List Nat,(∀b∈l,b∈e.jo.names)->noDup l=true->noDup (l.map (sigma e π d))=true:=by
     intro l;induction l with
     | nil=>intro _ _; rfl
     | cons b l ih=>
      intro hm hd;simp only[noDup,z8,zq] at hd;simp only[zh1,noDup,z8,zq];refine⟨zJ.2 fun hh=>?_,ih (fun b' hb'=>hm b' (by simp[hb'])) hd.2⟩
      obtain⟨b',hb',he⟩:=zS.1 (qaU.1 hh);have:=hinj b' b (hm b' (by simp[hb'])) (hm b (by simp)) he
      subst this;have:=qaU.2 hb';rw[hd.1] at this; cases this
    have hdf:∀l:List Nat,noDup l=true->noDup (l.filter fun b=>!memN e.ji.names b)=true:=by
     intro l;induction l with
     | nil=>intro _; rfl
     | cons b l ih=>
      intro hd;simp only[noDup,z8,zq] at hd;rw[List.filter_cons];split
      ·simp only[noDup,z8,zq];refine⟨zJ.2 fun hh=>?_,ih hd.2⟩
       have:=qaU.2 (zg2.1 (qaU.1 hh)).1;rw[hd.1] at this; cases this
      ·exact ih hd.2
    exact key _ (fun b hb=>(hnew b hb).1) (hdf _ hndj)
   have hfresh:∀b∈qbU e,st'.d (sigma e π d b)=false:=by
    intro b hb;have h1:st.d (sigma e π d b)=false:=by
     rw[zm] at k8;have:=k8 b hb; simpa using this
    rw[<-h1];exact(hag (.d _) (mem_r (zS.2 ⟨b,hb,rfl⟩))).symm
   let nv:List (Nat×Value):=(qbU e).map fun b=>(sigma e π d b,(ρ' b).getD (.int .i64 0))
   have hnv1:nv.map (·.1)=(qbU e).map (sigma e π d):=by simp[nv]
   have hnvd:(nv.map fun p=>Wr.d p.1)=(qbU e).map fun b=>.d (sigma e π d b):=by simp[nv]
   obtain⟨n1,n2,n3,n4,n5,n6,n7,n8⟩:=hmv.nameAll nv (by rw[hnv1]; exact hndn) (by
    intro p hp;obtain⟨b,hb,rfl⟩:=zS.1 hp;refine⟨by rw[d3]; exact hfresh b hb,?_⟩
    show((ρ' b).getD (.int .i64 0)).oneCell'=true;cases hρb:ρ' b with
    | none=>rfl
    | some v=>exact g4.one b v hρb)
   rw[hnvd] at n1 n5 n6 n7 n8;generalize hst3:(st'.app (qgQ (e.ji.names.map π))).app ((qbU e).map fun b=>.d (sigma e π d b))=st3 at n1 n5 n6 n7 n8
   have hp3:∀b,st3.present b↔(st'.app (qgQ (e.ji.names.map π))).present b:=fun b=>by unfold St.present; rw[n7,n8]
   have hjn:∀b v,ρ' b=some v->b∈e.jo.names:=by
    intro b v hv;by_cases hb:b∈e.jo.names
    ·exact hb
    ·have hd0:(e.jo.put0 y).d b=false:=zJ.2 fun hh=>hb (qaU.1 (show memN e.jo.names b=true from hh))
     rw[g4.dom b hd0] at hv; cases hv
   have henv:∀b v,ρ' b=some v->(ρ.sets nv) (sigma e π d b)=some v:=by
    intro b v hv;by_cases hb:b∈e.ji.names
    ·obtain⟨v1,hv1⟩:=hr.mem.named (hpresπ b hb);have h1:=g5 b v1 hb (hjn b v hv) (by rw[hren b hb]; exact hv1)
     rw[hv] at h1; injection h1 with h1; subst h1
     have hσ:sigma e π d b=π b:=by unfold sigma; rw[qaU.2 hb]; rfl
     rw[hσ]; exact n2 _ _ hv1
    ·have hbn:b∈qbU e:=zg2.2 ⟨hjn b v hv,by rw[zq]; exact zJ.2 fun hh=>hb (qaU.1 hh)⟩
     have:=n3 (sigma e π d b,(ρ' b).getD (.int .i64 0)) (zS.2 ⟨b,hbn,rfl⟩);simp only[hv,zo2] at this;exact this
   have hold:∀b,(st'.app (qgQ (e.ji.names.map π))).present b->∃v,ρ b=some v/\∀g,blkOf v=some g->g<w.heap.size/\¬InBlk (ρ.ren π e.ji.names) e.ji.names g:=by
    intro b hp;obtain⟨v,hv⟩:=hr.mem.named (hdp b hp).2;exact⟨v,hv,fun g hg=>⟨hr.mem.lt (hdp b hp).2 hv hg,hXd b v g hp hv hg⟩⟩
   have hcome:Come P w0 M F' w' (sigma e π d) e.jo.names (e.jo.put0 y) ρ' (ρ.sets nv) (fun b=>(st'.app (qgQ (e.ji.names.map π))).present b) st3:=by
    refine⟨hinj,henv,g4.sep,fun b hp=>?_,g4.own,fun b v g hp hv hg=>?_,fun b v g b' v' hp hv hg ho hv' he=>?_,fun b hp=>.inl ((hp3 b).1 hp),fun b hb ho=>?_⟩
    ·obtain⟨v,hv⟩:=g4.named hp; exact⟨hjn b v hv,v,hv⟩
    ·rcases g6 b v g hp hv hg with h1 | h1
     ·exact hXlo g h1
     ·exact .inr (zG hr.fr.size h1)
    ·obtain⟨v0,hv0,hg0⟩:=hold b' ho;have:=n2 b' v0 hv0;rw[hv'] at this; injection this with this; subst this
     obtain⟨q1,q2⟩:=hg0 g he;rcases g6 b v g hp hv hg with h1 | h1
     ·exact q2 h1
     ·omega
    ·by_cases hbj:b∈e.ji.names
     ·have hσ:sigma e π d b=π b:=by unfold sigma; rw[qaU.2 hbj]; rfl
      rw[hσ] at ho;exact(hdp _ ho).1 (zm1 hbj)
     ·have hbn:b∈qbU e:=zg2.2 ⟨hb,by rw[zq]; exact zJ.2 fun hh=>hbj (qaU.1 hh)⟩
      exact(hr.mem.absent (hfresh b hbn)).2.2 (hdp _ ho).2
   have hnone:∀b∈e.jo.names,st3.v (sigma e π d b)=none/\st3.a (sigma e π d b)=none:=by
    intro b hb;rw[n7,n8,d4,d5];by_cases hbj:b∈e.ji.names
    ·have hσ:sigma e π d b=π b:=by unfold sigma; rw[qaU.2 hbj]; rfl
     rw[hσ,if_pos (zm1 hbj),if_pos (zm1 hbj)]; exact⟨rfl,rfl⟩
    ·have hbn:b∈qbU e:=zg2.2 ⟨hb,by rw[zq]; exact zJ.2 fun hh=>hbj (qaU.1 hh)⟩
     obtain⟨a1,a2,_⟩:=hr.mem.absent (hfresh b hbn);constructor
     ·split
      ·rfl
      ·exact a1
     ·split
      ·rfl
      ·exact a2
   have hndvs:=qvy (l:=e.jo.vars.map (fun p=>p.1)) (l':=e.jo.arrs.map (fun p=>p.1)) (by exact hndj)
   obtain⟨v1,v2,v3,v4,v5,v6⟩:=Come.vars (P:=P) (σ:=sigma e π d) (names:=e.jo.names) (sc:=e.jo.put0 y) (ρc:=ρ') (old:=fun b=>(st'.app (qgQ (e.ji.names.map π))).present b) (by
     intro b ty k hv;obtain⟨g,arr,q1,q2,q3,q4⟩:=g4.var b ty k hv;exact⟨g,arr,q1,q2,q3,fun j x hj=>⟨(q4 j x hj).1.ren1 henv,(q4 j x hj).2⟩⟩) e.jo.vars n1 hcome (by
     intro p hp;have hpn:p.1∈e.jo.names:=zD.2 (.inl (zm1 hp));exact⟨hpn,qqr hndvs.1 p hp,(hnone p.1 hpn).2⟩)
   obtain⟨r1,r2,r3⟩:=Come.arrs (P:=P) (σ:=sigma e π d) (names:=e.jo.names) (sc:=e.jo.put0 y) (ρc:=ρ') (old:=fun b=>(st'.app (qgQ (e.ji.names.map π))).present b) g4.arr e.jo.arrs v1 v2 (by
     intro p hp;have hpn:p.1∈e.jo.names:=zD.2 (.inr (zm1 hp));refine⟨hpn,?_⟩
     rw[v6 _ (fun hm=>?_)]
     ·exact(hnone p.1 hpn).1
     ·obtain⟨q,hq,he⟩:=zS.1 hm;have h1:q.1∈e.jo.vars.map (·.1):=zm1 hq;have:=hinj q.1 p.1 (zD.2 (.inl h1)) hpn he;rw[this] at h1;exact hndvs.2.2 p.1 h1 (zm1 hp))
   have hfin:=r1.setR (d:=d) (s:=(resSV e.nr (e.jo.put0 y)).ren (sigma e π d)) (u:=rv) k1 (g7.ren henv);refine⟨rv,rfl,F',ρ.sets nv,?_,fun g hg=>g2 g (hF.1 g hg),fun g hg=>?_⟩
   ·have heq:st'.app (qrG e π d y)=((st3.app (qkP (sigma e π d) (e.jo.put0 y) e.jo.vars)).app (qkQ (sigma e π d) (e.jo.put0 y) e.jo.arrs)).put (.r d ((resSV e.nr (e.jo.put0 y)).ren (sigma e π d))):=by
     unfold qrG;rw[qcm,qcm,qcm,qcm,hst3]; rfl
    show Rel' P w0 M N F' (ρ.sets nv) (st'.app (qrG e π d y)) (a.put (some d) rv) w';rw[heq]; exact hfin
   ·rcases g3 g hg with h1 | h1 | h1
    ·exact hF.2 g h1
    ·exact .inr (hXlo g h1)
    ·exact .inr (.inr (zG hr.fr.size h1))
 ·cases h
theorem qoI(h:MemOk P F w ρ st):∀ {l:List (Nat×Sh)} {ss:List SV} {vs:List Value},ss.length=vs.length->(∀(i:Nat) (s:SV) (u:Value),ss[i]? = some s->vs[i]? = some u->Den P F w ρ s u)->
  (readL st l ss).length=vs.length/\∀(F':Nat->Prop),(∀g,F g->F' g)->(∀b u,b∈used l ss->ρ b=some u->∀g,blkOf u=some g->F' g)->∀(i:Nat) (s:SV) (u:Value),(readL st l ss)[i]? = some s->vs[i]? = some u->Den P F' w ρ s u
 | [],ss,vs,hl,hd=>⟨by simpa[readL] using hl,fun F' hF _ i s u hs hu=>(hd i s u (by simpa[readL] using hs) hu).mono hF (fun _ _=>rfl) _ (fun _ _ h=>h)⟩
 | _::_,[],vs,hl,hd=>⟨by simpa[readL] using hl,fun F' hF _ i s u hs hu=>by simp[readL] at hs⟩
 | (t,sh)::l,s::ss,[],hl,hd=>by simp at hl
 | (t,sh)::l,s::ss,v::vs,hl,hd=>by
  obtain⟨h1,h2⟩:=qoI h (l:=l) (ss:=ss) (vs:=vs) (by simpa using hl) (fun i s u hs hu=>hd (i+1) s u (by simpa using hs) (by simpa using hu))
  refine⟨by simp[readL,h1],fun F' hF hb i s' u hs hu=>?_⟩
  cases i with
  | succ i=>exact h2 F' hF (fun b u hbm hu'=>hb b u (mem_rN hbm) hu') i s' u (by simpa[readL] using hs) (by simpa using hu)
  | zero=>
   simp only[readL,zt2,zn1] at hs hu;subst hs hu;have hd0:=hd 0 s v rfl rfl;have up:∀ {s u},Den P F w ρ s u->Den P F' w ρ s u:=fun hd=>hd.mono hF (fun _ _=>rfl) _ (fun _ _ h=>h)
   have one:∀ {b:Nat} {u:Value},ρ b=some u->(∀g,blkOf u=some g->F' g)->Den P F' w ρ (read1 st (.own b)) u:=by
    intro b u hρ hg;simp only[read1];split
    ·rename_i ty e l' hA;obtain⟨cs,a1,a2⟩:=qCU h hA hρ;exact .v ⟨cs,a1.mono (fun g hgg=>hgg.elim (hF g) (hg g)) (fun _ _=>rfl),a2⟩
    ·exact .own hρ
   unfold qxw;split
   ·rename_i τ b;cases hd0 with
    | own hρ=>exact one hρ (fun g hg=>hb b _ (by simp[used,qoH]) hρ g hg)
   ·rename_i τ cs;cases hd0 with
    | agg hl' hi ho=>
     rename_i vs';refine .agg (by simpa using hl') (fun j s u hs hu=>?_) ho
     rw[zL] at hs;obtain⟨s0,hs0,rfl⟩:=zc1.1 hs;have hd1:=hi j s0 u hs0 hu;cases s0 with
     | own b=>
      cases hd1 with
      | own hρ=>exact one hρ (fun g hg=>hb b _ (by
        simp only[used,qoH,zD,z52];exact .inl ⟨.own b,zF hs0,by simp[used1]⟩) hρ g hg)
     | _=>exact up hd1
   ·exact up hd0
where
 mem_rN {x y:List Nat} {κ:Nat} (h:κ∈y):κ∈x++y:=zD.2 (.inr h)
theorem qCW:∀(bs:List Nat) {st:St} {F:Nat->Prop},Rel' P w0 M N F ρ st a w->∃F',Rel' P w0 M N F' ρ (st.app (dropA bs)) a w/\(∀g,F g->F' g)/\(∀g,F' g->F g\/M.blk g\/w0.heap.size<=g)∧
  ∀b∈bs,(∃ty e l,st.a b=some (.arr ty e l))->∀u,ρ b=some u->∀g,blkOf u=some g->F' g
 | [],st,F,h=>⟨F,h,fun _ h=>h,fun _ h=>.inl h,fun b hb=>by cases hb⟩
 | b::bs,st,F,h=>by
  have step:∃F1,Rel' P w0 M N F1 ρ (st.put (.a b none)) a w/\(∀g,F g->F1 g)/\(∀g,F1 g->F g\/M.blk g\/w0.heap.size<=g)/\((∃ty e l,st.a b=some (.arr ty e l))->∀u,ρ b=some u->∀g,blkOf u=some g->F1 g):=by
   by_cases hA:∃ty e l,st.a b=some (.arr ty e l)
   ·obtain⟨ty,e,l,hA⟩:=hA;obtain⟨u,hu,_⟩:=h.mem.arr b _ hA;obtain⟨h1,h2⟩:=h.freeze (st':=st.put (.a b none)) hA hu (fun t v hd=>hd.mono (fun _ h=>.inl h) (fun _ _=>rfl) _ (fun _ _ h=>h)) (fun b' o v hd=>hd.mono (fun _ h=>.inl h) (fun _ _=>rfl) _ (fun _ _ h=>h)) rfl rfl rfl
    exact⟨_,h1,fun _ h=>.inl h,fun g hg=>hg.elim .inl (fun hg=>.inr (h2 g hg)),fun _ u' hu' g hg=>by rw[hu] at hu'; injection hu' with hu'; subst hu'; exact .inr hg⟩
   ·exact⟨F,h.dropA b,fun _ h=>h,fun _ h=>.inl h,fun hh=>absurd hh hA⟩
  obtain⟨F1,h1,h2,h3,h4⟩:=step;obtain⟨F',q1,q2,q3,q4⟩:=qCW bs h1;refine⟨F',q1,fun g hg=>q2 g (h2 g hg),fun g hg=>(q3 g hg).elim (h3 g) .inr,fun b' hb' hA u hu g hg=>?_⟩
  rcases zw.1 hb' with rfl | hb'
  ·exact q2 g (h4 hA u hu g hg)
  ·by_cases e:b'=b
   ·subst e; exact q2 g (h4 hA u hu g hg)
   ·refine q4 b' hb' ?_ u hu g hg
    obtain⟨ty,e',l,hA⟩:=hA;refine⟨ty,e',l,?_⟩
    show(bif Nat.beq b' b then none else st.a b')=_;rw[bq e]; exact hA
theorem RdC.scal{F F':Nat->Prop}{w w':World}:∀ {τ:Ty} {x:τ.den} {cs:List Value},scalT τ=true->RdC F w τ x cs->RdC F' w' τ x cs
 | .unit,_,_,_,h=>h
 | .int _,_,_,_,h=>h
 | .bool,_,_,_,h=>h
 | .str,_,_,_,h=>h
 | .sl _,_,_,h,_=>by cases h
 | .map _ _,_,_,h,_=>by cases h
 | .clo _ _,_,_,h,_=>by cases h
 | .pair a b,_,_,hs,h=>by
  simp only[scalT,z8] at hs;obtain⟨c1,c2,e,h1,h2⟩:=h; exact⟨c1,c2,e,h1.scal hs.1,h2.scal hs.2⟩
 | .err,_,_,_,h=>h
 | .fnc _,_,_,_,h=>h
 | .fnl _,_,_,_,h=>h
 | .arr n e,x,cs,hf,h=>RdAr.mono (fun x c hc=>RdC.scal (τ:=e) hf hc) h
theorem Den.scal1{F F':Nat->Prop}{w w':World}{ρ ρ':Env}{s:SV}{u:Value}(hs:scal1 s=true)(h:Den P F w ρ s u):Den P F' w' ρ' s u:=by
 cases h with
 | v h=>obtain⟨cs,h1,h2⟩:=h; exact .v ⟨cs,h1.scal hs,h2⟩
 | _=>cases hs
theorem Den.scal{F F':Nat->Prop}{w w':World}{ρ ρ':Env}{s:SV}{u:Value}(h:Den P F w ρ s u):Den P F' w' ρ' (scal s) u:=by
 unfold Sq.scal;cases hs:scalS s with
 | false=>exact .any _
 | true=>
  simp only[za];cases h with
  | tup a b=>
   simp only[scalS,zm] at hs;exact .tup a fun i s u h1 h2=>(b i s u h1 h2).scal1 (hs s (zF h1))
  | v h=>exact Den.scal1 (ρ:=ρ) (s:=.v _ _) hs (.v h)
  | _=>cases hs
theorem qrI{F:Nat->Prop}{w:World}(hb:∀g,F g->g<w.heap.size)(hgl:qgM F w):Rel' P w Mod.none 1 F Env.none κ0 { tmps:=#[undef],defers:=[] } w:=by
 have hno:∀b,¬κ0.present b:=by
  intro b h;unfold St.present at h;rcases h with h | h <;> exact h rfl
 refine⟨Fr.refl w _,⟨fun b _=>rfl,fun b ty k h=>(by cases h),fun b A h=>(by cases h),fun b b' v v' g h=>(hno b h).elim,fun b v g h=>(hno b h).elim,hb,fun b v h=>(by cases h),hgl⟩,fun b v g h=>(hno b h).elim,fun t=>.any _,rfl,rfl,fun b v h=>(by cases h)⟩
theorem qtl{st st':St}:∀(l:List (Nat×Sh)) (ss:List SV),(∀b∈used l ss,st.a b=st'.a b)->readL st' l ss=readL st l ss:=by
 intro l;induction l with
 | nil=>intro ss _; rfl
 | cons p l ih=>
  obtain⟨t,sh⟩:=p;intro ss hb;cases ss with
  | nil=>rfl
  | cons s ss=>
   simp only[readL];rw[ih ss (fun b hbm=>hb b (zD.2 (.inr hbm)))]
   congr 1;have h1:∀b∈qoH sh s,st.a b=st'.a b:=fun b hbm=>hb b (zD.2 (.inl hbm))
   unfold qxw;split
   ·rename_i τ b;simp only[read1,h1 b (by simp[qoH])]
   ·rename_i τ cs;congr 1;apply zr2;intro s0 hs0;cases s0 with
    | own b=>
     simp only[read1];rw[h1 b (by simp only[qoH,z52]; exact⟨.own b,hs0,by simp[used1]⟩)]
    | _=>rfl
   ·rfl
theorem qBI{e:Fun}(c:FunOk P e){d:Nat}{ks:List Key}{ss:List SV}{vs:List Value}{r:CR e}{y:CT e.jo.ct}(hall:∀b∈used e.ji.regs ss,isArr (st.a b)=true)(h:qt3 e st N d ks ss=some r)(hy:e.tw r.x=some y){st':St}(hag:∀κ∈r.rd,agree st st' κ)
  (hr:Rel' P w0 M N F ρ st' a w) (hF:(∀g,F0 g->F g)/\∀g,F g->F0 g\/M.blk g\/w0.heap.size<=g) (hlen:ss.length=vs.length) (hden:∀(i:Nat) (s:SV) (u:Value),ss[i]? = some s->vs[i]? = some u->Den P F w ρ s u):
  Calls P e.f vs.toArray w fun en w'=>∃rv,en=.returned rv/\Rel P w0 M N F0 (st'.app (r.wr y)) (a.put (some d) rv) w':=by
 unfold qt3 at h;split at h
 ·rename_i q hq;cases hb:((readL st e.ji.regs ss).all closedA&&Nat.blt d N) with
  | false=>rw[hb] at h; cases h
  | true=>
   rw[hb] at h; injection h with h; subst h
   rw[z8,zX] at hb;have hab:∀b∈used e.ji.regs ss,st.a b=st'.a b:=fun b hb=>hag (.a b) (mem_r (zS.2 ⟨b,hb,rfl⟩))
   have hpres:∀b∈used e.ji.regs ss,st'.present b:=fun b hb=>.inr (by
    have:=hall b hb;rw[hab b hb] at this;intro e; rw[e] at this; cases this)
   let F1:Nat->Prop:=fun g=>F g\/∃b u,b∈used e.ji.regs ss/\ρ b=some u/\blkOf u=some g
   have hb1:∀g,F1 g->g<w.heap.size:=by
    rintro g (hg | ⟨b,u,hb,hu,hg⟩)
    ·exact hr.mem.fb g hg
    ·exact hr.mem.lt (hpres b hb) hu hg
   obtain⟨d1,d2⟩:=qoI hr.mem (l:=e.ji.regs) (ss:=ss) (vs:=vs) hlen hden;rw[qtl _ _ hab] at d1 d2;have hd3:=d2 F1 (fun g hg=>.inl hg) (fun b u hb hu g hg=>.inr ⟨b,u,hb,hu,hg⟩)
   refine(qq2 c (F0:=F1) (vs:=vs) hq hy (fun κ _=>agree.refl _ κ) (qrI hb1 (hr.mem.glob.mono (fun _ h=>.inl h) (fun _ _=>rfl))) ⟨fun _ h=>h,fun _ h=>.inl h⟩ d1 (fun i s u hs hu=>(hd3 i s u hs hu).closedA (zm.1 hb.1 s (zF hs)))).mono ?_
   rintro en w' ⟨rv,rfl,F'',ρ'',hr2,k1,k2⟩
   refine⟨rv,rfl,?_⟩
   have hfr:Fr w (fun _=>False) w':=⟨hr2.fr.os,hr2.fr.tape,hr2.fr.output,hr2.fr.size,fun g hg _=>hr2.fr.blk g hg (fun h=>h)⟩
   have hres:Den P F w' ρ (scal ((κ0.app (q.wr y)).r 0)) rv:=Den.scal (hr2.regs 0);show Rel P w0 M N F0 (st'.put (.r d (scal ((κ0.app (q.wr y)).r 0)))) (a.put (some d) rv) w';exact⟨F,ρ,(hr.grow0 hfr).setR hb.2 hres,hF⟩
 ·cases h
theorem Den.fr1{F':Nat->Prop}{w':World}{s:SV}{u:Value}(h:Den P F w ρ s u):Den P F' w' ρ s.fr1 u:=by
 unfold SV.fr1;cases hs:s.free1 with
 | false=>exact .any _
 | true=>exact h.free1 hs
theorem Den.fr2{F':Nat->Prop}{w':World}{s:SV}{u:Value}(h:Den P F w ρ s u):Den P F' w' ρ s.fr2 u:=by
 cases s with
 | agg cs=>
  cases h with
  | agg hl hi h1=>
   refine .agg (by simpa using hl) (fun i s u hs hu=>?_) h1
   rw[zL] at hs;obtain⟨s0,hs0,rfl⟩:=zc1.1 hs;exact(hi i s0 u hs0 hu).fr1
 | _=>exact h.fr1
theorem Den.fr3{F':Nat->Prop}{w':World}{s:SV}{u:Value}(h:Den P F w ρ s u):Den P F' w' ρ s.fr3 u:=by
 cases s with
 | tup cs=>
  cases h with
  | tup hl hi=>
   refine .tup (by simpa using hl) (fun i s u hs hu=>?_)
   rw[zL] at hs;obtain⟨s0,hs0,rfl⟩:=zc1.1 hs;exact(hi i s0 u hs0 hu).fr2
 | _=>exact h.fr2
theorem put_d{x:Wr}{st:St}{b:Nat}(h:(st.put x).d b=true):st.d b=true\/x=.d b:=by
 cases x with
 | d b'=>
  have h':(bif Nat.beq b b' then true else st.d b)=true:=h;cases hb:Nat.beq b b' with
  | true=>exact .inr (by rw[zc hb])
  | false=>rw[hb] at h'; exact .inl h'
 | _=>exact .inl h
theorem app_d:∀(l:List Wr) {st:St} {b:Nat},(st.app l).d b=true->st.d b=true\/Wr.d b∈l
 | [],_,_,h=>.inl h
 | x::l,st,b,h=>by
  rcases app_d l (st:=st.put x) h with h | h
  ·rcases put_d h with h | h
   ·exact .inl h
   ·exact .inr (by rw[h]; exact zd2 ..)
  ·exact .inr (zO _ h)
theorem qxx{b b':Nat}:∀(l:List SV) (o:Nat),Wr.d b∉qcB b' o l
 | [],_,h=>by cases h
 | s::l,o,h=>by
  rcases zw.1 h with h | h
  ·cases h
  ·exact qxx l (o+1) h
theorem qxy{σ:Nat->Nat}{sc:St}{b:Nat}:∀(l:List (Nat×TypeId×List Sh1)),Wr.d b∉qkP σ sc l
 | [],h=>by cases h
 | (b0,ty,cs)::l,h=>by
  simp only[qkP,zj1,zw,zD] at h;rcases h with h | h | h
  ·cases h
  ·exact qxx _ _ h
  ·exact qxy l h
theorem qxz{σ:Nat->Nat}{sc:St}{b:Nat}:∀(l:List (Nat×ObSh)),Wr.d b∉qkQ σ sc l
 | [],h=>by cases h
 | (b0,s)::l,h=>by
  simp only[qkQ,zw] at h;rcases h with h | h
  ·cases h
  ·exact qxz l h
theorem qBJ{e:Fun}{π:Nat->Nat}{d b:Nat}{y:CT e.jo.ct}(h:Wr.d b∈qrG e π d y):b∈(qbU e).map fun b=>lookN (numb d 0 (qbU e)) b:=by
 simp only[qrG,zD] at h;rcases h with h | h | h | h | h
 ·obtain⟨x,_,hx⟩:=z52.1 h;simp at hx
 ·obtain⟨x,hx,he⟩:=zS.1 h;injection he with he
  refine zS.2 ⟨x,hx,?_⟩
  have hn:memN e.ji.names x=false:=by
   simp only[qbU,zg2,zq] at hx;exact hx.2
  unfold sigma at he;rw[hn] at he;exact he
 ·exact(qxy _ h).elim
 ·exact(qxz _ h).elim
 ·simp at h
theorem qtm{σ:Nat->Nat}{sc:St}:∀(l:List Nat),qkQ σ sc (l.map fun b=>(b,ObSh.arr 0 .unit))=l.map fun b=>.a (σ b) (sc.a b)
 | []=>rfl
 | b::l=>by simp only[zh1,qkQ,qtm l]
theorem qrJ{d:Nat}:∀ {nn:List Nat},noDup nn=true->noDup (nn.map (· + d*16))=true
 | [],_=>rfl
 | b::l,hnd=>by
  simp only[noDup,z8,zq] at hnd;simp only[zh1,noDup,z8,zq];refine⟨zJ.2 fun hh=>?_,qrJ hnd.2⟩
  obtain⟨b',hb',he⟩:=zS.1 (qaU.1 hh);have he':b'=b:=by
   have:b'+d*16=b+d*16:=he;omega
  subst he';have:=qaU.2 hb';rw[hnd.1] at this; cases this
theorem qBK{e:Fun}(c:FunOk P e){d:Nat}{ks:List Key}{ss:List SV}{vs:List Value}{r:CR e}{y:CT e.jo.ct}(hall:∀b∈used e.ji.regs ss,isArr (st.a b)=true)(h:qt4 e st N d ks ss=some r)(hy:e.tw r.x=some y){st':St}(hag:∀κ∈r.rd,agree st st' κ)
  (hr:Rel' P w0 M N F ρ st' a w) (hF:(∀g,F0 g->F g)/\∀g,F g->F0 g\/M.blk g\/w0.heap.size<=g) (hlen:ss.length=vs.length) (hden:∀(i:Nat) (s:SV) (u:Value),ss[i]? = some s->vs[i]? = some u->Den P F w ρ s u):
  Calls P e.f vs.toArray w fun en w'=>∃rv,en=.returned rv/\Rel P w0 M N F0 (st'.app (r.wr y)) (a.put (some d) rv) w':=by
 unfold qt4 at h;split at h
 ·rename_i q hq;cases hb:((readL st e.ji.regs ss).all closedA&&Nat.blt d N&&noDup (qdo e)&&(qdo e).all (fun b=>!st.d (b+d*16))) with
  | false=>rw[hb] at h; cases h
  | true=>
   rw[hb] at h; injection h with h; subst h
   rw[z8,z8,z8,zX] at hb;obtain⟨⟨⟨hb1',hb2'⟩,hnd⟩,hfre⟩:=hb;have hab:∀b∈used e.ji.regs ss,st.a b=st'.a b:=fun b hb=>hag (.a b) (mem_r (mem_l (zS.2 ⟨b,hb,rfl⟩)))
   have hfresh:∀b∈qdo e,st'.d (b+d*16)=false:=by
    intro b hb;have h1:st.d (b+d*16)=false:=by
     rw[zm] at hfre;have:=hfre b hb; simpa using this
    rw[<-h1];exact(hag (.d _) (mem_r (mem_r (zS.2 ⟨b,hb,rfl⟩)))).symm
   have hpres:∀b∈used e.ji.regs ss,st'.present b:=fun b hb=>.inr (by
    have:=hall b hb;rw[hab b hb] at this;intro e; rw[e] at this; cases this)
   let F1:Nat->Prop:=fun g=>F g\/∃b u,b∈used e.ji.regs ss/\ρ b=some u/\blkOf u=some g
   have hb1:∀g,F1 g->g<w.heap.size:=by
    rintro g (hg | ⟨b,u,hb,hu,hg⟩)
    ·exact hr.mem.fb g hg
    ·exact hr.mem.lt (hpres b hb) hu hg
   obtain⟨d1,d2⟩:=qoI hr.mem (l:=e.ji.regs) (ss:=ss) (vs:=vs) hlen hden;rw[qtl _ _ hab] at d1 d2;have hd3:=d2 F1 (fun g hg=>.inl hg) (fun b u hb hu g hg=>.inr ⟨b,u,hb,hu,hg⟩)
   refine(qq2 c (F0:=F1) (vs:=vs) hq hy (fun κ _=>agree.refl _ κ) (qrI hb1 (hr.mem.glob.mono (fun _ h=>.inl h) (fun _ _=>rfl))) ⟨fun _ h=>h,fun _ h=>.inl h⟩ d1 (fun i s u hs hu=>(hd3 i s u hs hu).closedA (zm.1 hb1' s (zF hs)))).mono ?_
   rintro en w' ⟨rv,rfl,F'',ρ'',hr2,k1,k2⟩
   refine⟨rv,rfl,?_⟩
   have hfr:Fr w (fun _=>False) w':=⟨hr2.fr.os,hr2.fr.tape,hr2.fr.output,hr2.fr.size,fun g hg _=>hr2.fr.blk g hg (fun h=>h)⟩
   have hwr:∃π,q.wr=qrG e π 0:=by
    unfold qn5 at hq;split at hq
    ·generalize qxv e κ0 1 0 _ _=cc at hq;cases cc with
     | false=>cases hq
     | true=>injection hq with hq; subst hq; exact⟨_,rfl⟩
    ·cases hq
   obtain⟨π,hwr⟩:=hwr;have hdn:∀b,(κ0.app (q.wr y)).d b=true->b∈qdo e:=by
    intro b hb;rcases app_d _ hb with hb | hb
    ·cases hb
    ·rw[hwr] at hb; exact qBJ hb
   have hres0:Den P F'' w' ρ'' ((κ0.app (q.wr y)).r 0) rv:=hr2.regs 0;show Rel P w0 M N F0 (st'.app (qvz (qdo e) d (κ0.app (q.wr y)))) (a.put (some d) rv) w';generalize κ0.app (q.wr y)=s2 at hr2 hdn hres0 ⊢;generalize hnn:qdo e=nn at hnd hfresh hdn ⊢;have hg:=hr.grow0 hfr
   let nv:List (Nat×Value):=nn.map fun b=>(b+d*16,(ρ'' b).getD (.int .i64 0))
   have hnvd:(nv.map fun p=>Wr.d p.1)=nn.map fun b=>.d (b+d*16):=by simp[nv]
   have hnvn:noDup (nv.map (·.1))=true:=by
    have:nv.map (·.1)=nn.map (· + d*16):=by simp[nv]
    rw[this];exact qrJ hnd
   obtain⟨n1,n2,n3,n4,n5,n6,n7,n8⟩:=hg.nameAll nv hnvn (by
    intro p hp;obtain⟨b,hb,rfl⟩:=zS.1 hp;refine⟨hfresh b hb,?_⟩
    show((ρ'' b).getD (.int .i64 0)).oneCell'=true;cases hρb:ρ'' b with
    | none=>rfl
    | some v=>exact hr2.mem.one b v hρb)
   rw[hnvd] at n1 n5 n6 n7 n8;generalize hst3:st'.app (nn.map fun b=>.d (b+d*16))=st3 at n1 n5 n6 n7 n8
   have hjn:∀b v,ρ'' b=some v->b∈nn:=by
    intro b v hv;by_cases hb:s2.d b=true
    ·exact hdn b hb
    ·rw[hr2.mem.dom b (zJ.2 hb)] at hv; cases hv
   have henv:∀b v,ρ'' b=some v->(ρ.sets nv) (b+d*16)=some v:=by
    intro b v hv;have:=n3 (b+d*16,(ρ'' b).getD (.int .i64 0)) (zS.2 ⟨b,hjn b v hv,rfl⟩);simp only[hv,zo2] at this;exact this
   let sc:St:={ s2 with v:=fun _=>none,a:=fun b=>bif memN nn b then freeA (s2.a b) else none }
   have hsc:∀b A,sc.a b=some A->s2.a b=some A/\A.free=true:=by
    intro b A hA;have hA':(bif memN nn b then freeA (s2.a b) else none)=some A:=hA;cases hm:memN nn b with
    | false=>rw[hm] at hA'; cases hA'
    | true=>
     rw[hm] at hA';cases hs:s2.a b with
     | none=>rw[hs] at hA'; cases hA'
     | some B=>
      rw[hs] at hA';have hA2:(bif B.free then some B else none)=some A:=hA';cases hf:B.free with
      | false=>rw[hf] at hA2; cases hA2
      | true=>rw[hf] at hA2; injection hA2 with hA2; subst hA2; exact⟨rfl,hf⟩
   have hscp:∀b,sc.present b->s2.present b:=by
    rintro b (hb | hb)
    ·exact absurd rfl hb
    ·cases hA:sc.a b with
     | none=>exact absurd hA hb
     | some A=>exact .inr (by rw[(hsc b A hA).1]; simp)
   have hnew:∀b v g,sc.present b->ρ'' b=some v->blkOf v=some g->w.heap.size<=g:=by
    intro b v g hp hv hg;rcases hr2.lo b v g (hscp b hp) hv hg with h | h
    ·exact h.elim
    ·exact h
   have hold:∀b,st'.present b->∃v,ρ b=some v/\∀g,blkOf v=some g->g<w.heap.size:=by
    intro b hp;obtain⟨v,hv⟩:=hr.mem.named hp;exact⟨v,hv,fun g hg=>hr.mem.lt hp hv hg⟩
   have hcome:Come P w0 M F w' (· + d*16) nn sc ρ'' (ρ.sets nv) (fun b=>st'.present b) st3:=by
    refine⟨fun b b' _ _ he=>by have:b+d*16=b'+d*16:=he; omega,henv,fun b b' v v' g h1 h2=>hr2.mem.sep b b' v v' g (hscp b h1) (hscp b' h2),fun b hp=>?_,fun b v g hp hv hg hF=>?_,fun b v g hp hv hg=>.inr (zG hr.fr.size (hnew b v g hp hv hg)),fun b v g b' v' hp hv hg ho hv' he=>?_,fun b hp=>.inl ?_,fun b hb ho=>?_⟩
    ·obtain⟨v,hv⟩:=hr2.mem.named (hscp b hp); exact⟨hjn b v hv,v,hv⟩
    ·have:=hnew b v g hp hv hg;have:=hr.mem.fb g hF;omega
    ·obtain⟨v0,hv0,hg0⟩:=hold b' ho;have:=n2 b' v0 hv0;rw[hv'] at this; injection this with this; subst this
     have:=hg0 g he;have:=hnew b v g hp hv hg;omega
    ·unfold St.present at hp ⊢;rw[n7,n8] at hp; exact hp
    ·exact(hr.mem.absent (hfresh b hb)).2.2 ho
   obtain⟨r1,r2,r3⟩:=Come.arrs (P:=P) (σ:=(· + d*16)) (names:=nn) (sc:=sc) (ρc:=ρ'') (old:=fun b=>st'.present b) (fun b A hA=>by
     obtain⟨hA1,hA2⟩:=hsc b A hA;obtain⟨u,hu,hob⟩:=hr2.mem.arr b A hA1;exact⟨u,hu,hob.free hA2⟩) (nn.map fun b=>(b,ObSh.arr 0 .unit)) n1 hcome (by
     intro p hp;obtain⟨b,hb,rfl⟩:=zS.1 hp;exact⟨hb,by rw[n7]; exact(hr.mem.absent (hfresh b hb)).1⟩)
   have hfin:=r1.setR (d:=d) (s:=(s2.r 0).fr3.ren (· + d*16)) (u:=rv) hb2' (hres0.fr3.ren henv);refine⟨F,ρ.sets nv,?_,hF⟩
   have hmap:qkQ (· + d*16) sc (nn.map fun b=>(b,ObSh.arr 0 .unit))=nn.map fun b=>.a (b+d*16) (freeA (s2.a b)):=by
    rw[qtm];apply zr2;intro b hb;have:sc.a b=freeA (s2.a b):=by
     show(bif memN nn b then freeA (s2.a b) else none)=_;rw[qaU.2 hb]; rfl
    rw[this]
   have heq:st'.app (qvz nn d s2)=(st3.app (qkQ (· + d*16) sc (nn.map fun b=>(b,ObSh.arr 0 .unit)))).put (.r d ((s2.r 0).fr3.ren (· + d*16))):=by
    unfold qvz;rw[qcm,qcm,hst3,hmap]; rfl
   show Rel' P w0 M N F (ρ.sets nv) (st'.app (qvz nn d s2)) (a.put (some d) rv) w';rw[heq]; exact hfin
 ·cases h
theorem qBL{e:Fun}(c:FunOk P e){d:Nat}{ks:List Key}{ss:List SV}{vs:List Value}{r:CR e}{y:CT e.jo.ct}(h:qrH e st N d ks ss=some r)(hy:e.tw r.x=some y){st':St}(hag:∀κ∈r.rd,agree st st' κ)
  (hr:Rel' P w0 M N F ρ st' a w) (hF:(∀g,F0 g->F g)/\∀g,F g->F0 g\/M.blk g\/w0.heap.size<=g) (hlen:ss.length=vs.length) (hden:∀(i:Nat) (s:SV) (u:Value),ss[i]? = some s->vs[i]? = some u->Den P F w ρ s u):
  Calls P e.f vs.toArray w fun en w'=>∃rv,en=.returned rv/\Rel P w0 M N F0 (st'.app (r.wr y)) (a.put (some d) rv) w':=by
 unfold qrH at h;cases hall0:(used e.ji.regs ss).all (fun b=>isArr (st.a b)) with
 | false=>rw[hall0] at h; cases h
 | true=>
 rw[hall0] at h; simp only[za] at h;cases hbo:(borrow e&&!(used e.ji.regs ss).isEmpty) with
 | true=>
  rw[hbo] at h;exact qBI c (fun b hb=>zm.1 hall0 b hb) h hy hag hr hF hlen hden
 | false=>
 rw[hbo] at h; simp only[zb] at h;cases hle:(lend e&&!(used e.ji.regs ss).isEmpty) with
 | true=>
  rw[hle] at h;exact qBK c (fun b hb=>zm.1 hall0 b hb) h hy hag hr hF hlen hden
 | false=>
 rw[hle] at h; simp only[zb] at h;split at h
 ·rename_i r0 h0;injection h with h; subst h
  have hab:∀b∈used e.ji.regs ss,st.a b=st'.a b:=fun b hb=>hag (.a b) (mem_r (mem_l (zS.2 ⟨b,hb,rfl⟩)))
  obtain⟨F1,q1,q2,q3,q4⟩:=qCW (used e.ji.regs ss) hr
  -- what is read,in the state at hand
  have hread:readL st' e.ji.regs (ss)=readL st e.ji.regs (ss):=by
   have key:∀(l:List (Nat×Sh)) (ss:List SV),(∀b∈used l ss,st.a b=st'.a b)->readL st' l ss=readL st l ss:=by
    intro l;induction l with
    | nil=>intro ss _; rfl
    | cons p l ih=>
     obtain⟨t,sh⟩:=p;intro ss hb;cases ss with
     | nil=>rfl
     | cons s ss=>
      simp only[readL];rw[ih ss (fun b hbm=>hb b (zD.2 (.inr hbm)))]
      congr 1;have h1:∀b∈qoH sh s,st.a b=st'.a b:=fun b hbm=>hb b (zD.2 (.inl hbm))
      unfold qxw;split
      ·rename_i τ b;simp only[read1,h1 b (by simp[qoH])]
      ·rename_i τ cs;congr 1;apply zr2;intro s0 hs0;cases s0 with
       | own b=>
        simp only[read1];rw[h1 b (by simp only[qoH,z52]; exact⟨.own b,hs0,by simp[used1]⟩)]
       | _=>rfl
      ·rfl
   exact key _ _ hab
  obtain⟨d1,d2⟩:=qoI hr.mem (l:=e.ji.regs) (ss:=ss) (vs:=vs) hlen hden;rw[hread] at d1 d2;have hall:∀b∈used e.ji.regs ss,∃ty e' l,st'.a b=some (.arr ty e' l):=by
   intro b hb;rw[zm] at hall0;have h1:=hall0 b hb;rw[hab b hb] at h1;unfold isArr at h1;split at h1
   ·rename_i hA; exact⟨_,_,_,hA⟩
   ·cases h1
  have hd3:=d2 F1 q2 (fun b u hb hu g hg=>q4 b hb (hall b hb) u hu g hg)
  refine(qq2 c (F0:=F0) h0 hy (st':=st'.app (dropA (used e.ji.regs ss))) (fun κ hκ=>qlu _ (hag κ (mem_r (mem_r hκ)))) q1 ⟨fun g hg=>q2 g (hF.1 g hg),fun g hg=>(q3 g hg).elim (hF.2 g) .inr⟩ d1 hd3).mono ?_
  rintro en w' ⟨rv,rfl,hrel⟩
  refine⟨rv,rfl,?_⟩
  show Rel P w0 M N F0 (st'.app (dropA (used e.ji.regs ss)++r0.wr y)) (a.put (some d) rv) w';rw[qcm]; exact hrel
 ·cases h
theorem qgc{xs:List Operand}{st':St}(hr:Rel' P w0 M N F ρ st' a w)(hag:∀κ∈qnp xs,agree st st' κ):∀(i:Nat) (s:SV) (u:Value),(xs.map st.ev)[i]? = some s->(xs.map a.eval)[i]? = some u->Den P F w ρ s u:=by
 intro i s u hs hu;rw[zL] at hs hu;cases hx:xs[i]? with
 | none=>rw[hx] at hu; cases hu
 | some x=>
  rw[hx] at hs hu;simp only[zf1,zn1] at hs hu;subst hs hu;exact hr.evx hag (fun κ hκ=>qtk (zF hx) κ hκ)
theorem qyH{e:Fun}{d:Nat}{ks:List Key}{ss:List SV}{r:CR e}(h:qrH e st N d ks ss=some r):∀κ∈ks,κ∈r.rd:=by
 unfold qrH at h;cases hall0:(used e.ji.regs ss).all (fun b=>isArr (st.a b)) with
 | false=>rw[hall0] at h; cases h
 | true=>
  rw[hall0] at h; simp only[za] at h;cases hbo:(borrow e&&!(used e.ji.regs ss).isEmpty) with
  | true=>
   rw[hbo] at h; simp only[za] at h;unfold qt3 at h;split at h
   ·generalize ((readL st e.ji.regs ss).all closedA&&Nat.blt d N)=cc at h;cases cc with
    | false=>cases h
    | true=>injection h with h; subst h; exact fun κ hκ=>mem_l hκ
   ·cases h
  | false=>
   rw[hbo] at h; simp only[zb] at h;cases hle:(lend e&&!(used e.ji.regs ss).isEmpty) with
   | true=>
    rw[hle] at h; simp only[za] at h;unfold qt4 at h;split at h
    ·generalize ((readL st e.ji.regs ss).all closedA&&Nat.blt d N&&noDup (qdo e)&&(qdo e).all (fun b=>!st.d (b+d*16)))=cc at h
     cases cc with
     | false=>cases h
     | true=>injection h with h; subst h; exact fun κ hκ=>mem_l hκ
    ·cases h
   | false=>
   rw[hle] at h; simp only[zb] at h;split at h
   ·injection h with h; subst h
    exact fun κ hκ=>mem_l hκ
   ·cases h
end
end Go.Sq
