/- The second engine, part MA: maps that a call makes: entries are looked up, written, deleted, counted. No condition. -/
import Derived.Test.YtfdgemafaphpaaaGreatSqM
namespace Go.Sq
open Go Go.RowKit Go.MapKept
def mdel{K V:Type}(o:KO K):List (K×V)->K->List (K×V)
 | [],_=>[]
 | p::r,x=>bif o.eq x p.1 then r else p::mdel o r x
def mins{K V:Type}(o:KO K):List (K×V)->K->V->List (K×V)
 | [],x,y=>[(x,y)]
 | p::r,x,y=>bif o.lt x p.1 then(x,y)::p::r else p::mins o r x y
def mput{K V:Type}(o:KO K)(l:List (K×V))(x:K)(y:V):List (K×V):=mins o (mdel o l x) x y
def midx{K V:Type}(o:KO K):List (K×V)->K->Nat
 | [],_=>0
 | p::r,x=>bif o.eq x p.1 then 0 else midx o r x+1
def mset{K V:Type}:List (K×V)->Nat->V->List (K×V)
 | [],_,_=>[]
 | p::r,0,y=>(p.1,y)::r
 | p::r,i+1,y=>p::mset r i y
theorem qy4{K V:Type}{o:KO K}{x:K}{z:V}:∀ {l:List (K×V)} {j:Nat} {p:K×V},l[j]? = some p->o.eq x p.1=true->(∀i q,l[i]? = some q->o.eq x q.1=true->i=j)->ment o l x z=l/\midx o l x=j
 | [],j,p,h,_,_=>by simp at h
 | q::r,j,p,h,hp,hu=>by
  cases hq:o.eq x q.1 with
  | true=>
   have h0:=hu 0 q rfl hq;subst h0;exact⟨by simp[ment,hq],by simp[midx,hq]⟩
  | false=>
   cases j with
   | zero=>simp at h; subst h; rw[hp] at hq; cases hq
   | succ j=>
    obtain⟨a1,a2⟩:=qy4 (z:=z) (l:=r) (j:=j) (p:=p) (by simpa using h) hp (fun i q hi he=>by have:=hu (i+1) q (by simpa using hi) he; omega)
    exact⟨by simp[ment,hq,a1],by simp[midx,hq,a2]⟩
theorem qy5{K V:Type}{o:KO K}{x:K}{z:V}:∀ {l:List (K×V)},(∀q∈l,o.eq x q.1=false)->ment o l x z=l++[(x,z)]/\midx o l x=l.length
 | [],_=>⟨rfl,rfl⟩
 | q::r,h=>by
  have hq:=h q (by simp)
  obtain⟨a1,a2⟩:=qy5 (z:=z) (l:=r) fun p hp=>h p (by simp[hp])
  exact⟨by simp[ment,hq,a1],by simp[midx,hq,a2]⟩
theorem qy6{K V:Type}:∀ {l:List (K×V)} {i:Nat} {p:K×V} (y:V),l[i]? = some p->mset l i y=l.set i (p.1,y)
 | [],_,_,_,h=>by simp at h
 | q::r,0,p,y,h=>by simp at h; subst h; rfl
 | q::r,i+1,p,y,h=>by
  have:=qy6 (l:=r) (i:=i) y (by simpa using h)
  simp[mset,this]
theorem qvR{K V:Type}{o:KO K}{x:K}:∀ {l:List (K×V)} {j:Nat} {p:K×V},l[j]? = some p->o.eq x p.1=true->(∀i q,l[i]? = some q->o.eq x q.1=true->i=j)->
  mget o l x=some p.2/\mdel o l x=l.eraseIdx j
 | [],j,p,h,_,_=>by simp at h
 | q::r,j,p,h,hp,hu=>by
  cases hq:o.eq x q.1 with
  | true=>
   have h0:=hu 0 q rfl hq;subst h0;simp at h; subst h;exact⟨by simp[mget,hq],by simp[mdel,hq]⟩
  | false=>
   cases j with
   | zero=>simp at h; subst h; rw[hp] at hq; cases hq
   | succ j=>
    obtain⟨a1,a2⟩:=qvR (l:=r) (j:=j) (p:=p) (by simpa using h) hp (fun i q hi he=>by have:=hu (i+1) q (by simpa using hi) he; omega)
    exact⟨by simp[mget,hq,a1],by simp[mdel,hq,a2]⟩
theorem qvS{K V:Type}{o:KO K}{x:K}:∀ {l:List (K×V)},(∀q∈l,o.eq x q.1=false)->mget o l x=none/\mdel o l x=l
 | [],_=>⟨rfl,rfl⟩
 | q::r,h=>by
  have hq:=h q (by simp)
  obtain⟨a1,a2⟩:=qvS (l:=r) fun p hp=>h p (by simp[hp])
  exact⟨by simp[mget,hq,a1],by simp[mdel,hq,a2]⟩
theorem qy7{K V:Type}(o:KO K)(x:K)(y:V):∀(l:List (K×V)),∃i,mins o l x y=l.take i++(x,y)::l.drop i
 | []=>⟨0,rfl⟩
 | p::r=>by
  unfold mins;cases o.lt x p.1 with
  | true=>exact⟨0,rfl⟩
  | false=>
   obtain⟨i,h⟩:=qy7 o x y r;exact⟨i+1,by simp[h]⟩
abbrev keyI:KO Int:=keyO (.int .i64)
def keyTy:TypeDesc->Ty->Bool
 | .int q,.int q'=>decide (q=q')
 | .string,.str=>true
 | .bool,.bool=>true
 | _,_=>false
def zOk:Ty->Value->Bool
 | .int q,.int q' n=>decide (q=q')&&decide (n=0)
 | .bool,.bool b=>!b
 | .str,.string s=>s.data.toList.isEmpty
 | .fnl _,.nilFunc=>true
 | _,_=>false
section
variable {P:Program} {F:Nat->Prop} {w:World} {k v:Ty} {d:TypeDesc}
theorem qvT{x:k.den}{u:Value}(h:keyTy d k=true)(hx:RdV F w k x u):IsKey d u:=by
 obtain⟨cs,h1,rfl⟩:=hx;unfold keyTy at h;split at h
 ·cases h1; exact(zm h).symm
 ·cases h1; trivial
 ·cases h1; trivial
 ·cases h
theorem qCT{q:IntKind}{x y:Int}:(keyO (.int q)).eq x y=true↔Value.int q x=Value.int q y:=by
 show decide (x=y)=true↔_;rw[zo];exact⟨fun e=>by rw[e],fun e=>by injection e⟩
theorem qCU{x y:List UInt8}:(keyO .str).eq x y=true↔Value.string ⟨⟨x⟩⟩=Value.string ⟨⟨y⟩⟩:=by
 show decide (x=y)=true↔_;rw[zo];exact⟨fun e=>by rw[e],fun e=>by injection e with e; injection e with e; injection e⟩
theorem qA1{x y:Bool}:(keyO .bool).eq x y=true↔Value.bool x=Value.bool y:=by
 show(x==y)=true↔_;rw[beq_iff_eq];exact⟨fun e=>by rw[e],fun e=>by injection e⟩
def Ty.key:Ty->Bool
 | .int _ | .str | .bool | .unit=>true
 | .pair a b=>a.key&&b.key
 | _=>false
theorem qqF:∀ {k:Ty} {x y:k.den} {cs ds:List Value},k.key=true->RdC F w k x cs->RdC F w k y ds->((keyO k).eq x y=true↔cs=ds)
 | .int q,x,y,cs,ds,_,hx,hy=>by
  cases hx; cases hy;exact qCT.trans ⟨fun e=>by rw[e],fun e=>by injection e⟩
 | .str,x,y,cs,ds,_,hx,hy=>by
  cases hx; cases hy;exact qCU.trans ⟨fun e=>by rw[e],fun e=>by injection e⟩
 | .bool,x,y,cs,ds,_,hx,hy=>by
  cases hx; cases hy;exact qA1.trans ⟨fun e=>by rw[e],fun e=>by injection e⟩
 | .unit,x,y,cs,ds,_,hx,hy=>by
  cases hx; cases hy;exact⟨fun _=>rfl,fun _=>rfl⟩
 | .pair a b,x,y,cs,ds,h,hx,hy=>by
  simp only[Ty.key,z9] at h;obtain⟨c1,c2,rfl,h1,h2⟩:=hx;obtain⟨d1,d2,rfl,h3,h4⟩:=hy;have e1:=h1.size;have e2:=h3.size;show((keyO a).eq x.1 y.1&&(keyO b).eq x.2 y.2)=true↔_;rw[z9,qqF h.1 h1 h3,qqF h.2 h2 h4];exact⟨fun e=>by rw[e.1,e.2],fun e=>List.append_inj e (by omega)⟩
theorem qCV{k:Ty}{cs ds:List Value}(h1:cs.length=k.size)(h2:ds.length=k.size):mkV k cs=mkV k ds↔cs=ds:=by
 refine⟨fun e=>?_,fun e=>by rw[e]⟩
 unfold mkV at e;cases hg:k.agg with
 | true=>
  rw[hg] at e; simp only[zb] at e;injection e with e
  have:=congrArg Array.toList e;simpa using this
 | false=>
  rw[hg] at e; simp only[za] at e;have hs:k.size=1:=by revert hg; cases k <;> intro hg <;> first | rfl | cases hg
  rw[hs] at h1 h2;obtain⟨c,rfl⟩:=zA1.1 h1;obtain⟨c',rfl⟩:=zA1.1 h2;have e':c=c':=e;rw[e']
theorem qqG{x y:k.den}{u u':Value}(h:k.key=true)(hx:RdV F w k x u)(hy:RdV F w k y u'):(keyO k).eq x y=true↔u=u':=by
 obtain⟨cs,h1,rfl⟩:=hx;obtain⟨ds,h2,rfl⟩:=hy;exact(qqF h h1 h2).trans (qCV h1.size h2.size).symm
theorem qs8:∀ {k:Ty},k.key=true->∀x y,(keyO k).eq x y=eqb k x y
 | .int _,_,_,_=>rfl
 | .str,_,_,_=>rfl
 | .bool,_,_,_=>rfl
 | .unit,_,_,_=>rfl
 | .pair a b,h,x,y=>by
  simp only[Ty.key,z9] at h;show((keyO a).eq x.1 y.1&&(keyO b).eq x.2 y.2)=(eqb a x.1 y.1&&eqb b x.2 y.2);rw[qs8 h.1,qs8 h.2]
theorem qy8(h:keyTy d k=true):k.key=true:=by
 unfold keyTy at h;split at h
 ·rfl
 ·rfl
 ·rfl
 ·cases h
theorem qDT(n:Nat)(q:IntKind)(x:Int):Instr.sameBits n (.int q x) (.int q x)=true:=by cases n <;> simp[Instr.sameBits]
theorem qDU(n:Nat)(x:ByteArray):Instr.sameBits n (.string x) (.string x)=true:=by
 have:(x==x)=true:=(bytes_beq x x).2 rfl;cases n <;> simp[Instr.sameBits,this]
theorem qCW(n:Nat)(x:Bool):Instr.sameBits n (.bool x) (.bool x)=true:=by cases n <;> simp[Instr.sameBits]
theorem qkM:∀ {k:Ty} {x:k.den} {cs:List Value},k.key=true->RdC F w k x cs->∀v∈cs,∀n,Instr.sameBits n v v=true
 | .int q,x,cs,_,hx=>by cases hx; intro v hv n; rw[zI.1 hv]; exact qDT n q x
 | .str,x,cs,_,hx=>by cases hx; intro v hv n; rw[zI.1 hv]; exact qDU n _
 | .bool,x,cs,_,hx=>by cases hx; intro v hv n; rw[zI.1 hv]; exact qCW n x
 | .unit,x,cs,_,hx=>by cases hx; intro v hv; simp at hv
 | .pair a b,x,cs,h,hx=>by
  simp only[Ty.key,z9] at h;obtain⟨c1,c2,rfl,h1,h2⟩:=hx;intro v hv n;rcases zy.1 hv with hv | hv
  ·exact qkM h.1 h1 v hv n
  ·exact qkM h.2 h2 v hv n
def scalD:TypeDesc->Bool
 | .bool | .int _ | .string=>true
 | _=>false
def keyOk(Γ:List TI)(kj:TI):Bool:=keyTy kj.desc kj.τ || (match kj.desc with
 | .struct fs=>eqT Γ 2 kj.t kj.τ&&kj.τ.key&&kj.τ.agg&&fs.toList.all fun f=>match look Γ f.type with
  | some i=>scalD i.desc
  | none=>false
 | _=>false)
structure KeyV(P:Program)(w:World)(kt:TypeId)(u:Value):Prop where
 chk:∀e,(Instr.checkKey e 10000 kt u).run P w=.ok () w
 stay:(Instr.keyThatStays u u).run P w=.ok u w
theorem qy9{Γ:List TI}(hΓ:Tys P Γ){t:TypeId}{τ:Ty}(h:eqT Γ 1 t τ=true)(hs:(match look Γ t with | some i=>scalD i.desc | none=>false)=true){x:τ.den}{cs:List Value}(hx:RdC F w τ x cs):∃d,P.underlying t=some d/\IsKey d (mkV τ cs):=by
 simp only[eqT] at h;split at h
 ·cases h
 ·rename_i i hl;rw[hl] at hs;obtain⟨hi,rfl⟩:=qax hΓ hl;refine⟨_,hi.und,?_⟩
  rw[z9] at h;obtain⟨_,h⟩:=h;split at h
  ·rename_i hd; rw[hd]; have:=zm h; subst this; cases hx; trivial
  ·rename_i hd; rw[hd]; have:=zm h; subst this; cases hx; exact rfl
  ·rename_i hd; rw[hd]; have:=zm h; subst this; cases hx; trivial
  ·rename_i hd; simp only[hd] at hs; cases hs
  ·rename_i hd; simp only[hd] at hs; cases hs
  ·cases h
theorem qus{Γ:List TI}(hΓ:Tys P Γ)(e:Bool){n:Nat}:∀ {fs:List Field} {o:Nat} {τ:Ty},eqFs (eqT Γ 1) fs o τ=true->(fs.all fun f=>match look Γ f.type with
  | some i=>scalD i.desc
  | none=>false)=true->∀ {x:τ.den} {cs cs1:List Value},RdC F w τ x cs->cs1.length=o->
   (forIn fs PUnit.unit (fun(f:Field) (_:PUnit)=>do
    if f.name ≠ "_" then
     let v<-part f.type (cs1++cs).toArray f.offset
     Instr.checkKey e (n+1) f.type v
     pure (ForInStep.yield PUnit.unit)
    else pure (ForInStep.yield PUnit.unit))).run P w=.ok PUnit.unit w
 | [],o,τ,h,hs,x,cs,cs1,hx,hc=>by simp
 | f::r,o,τ,h,hs,x,cs,cs1,hx,hc=>by
  simp only[eqFs,z9,zo1,zu] at h;simp only[zF1,z9] at hs;obtain⟨⟨h1,h2⟩,h3⟩:=h;have ho:=zc h2;have hn:f.name ≠ "_" :=by simpa using h1
  rcases h3 with h3 | h3
  ·split at h3
   ·have hp:=qhf (cs1:=cs1) (cs2:=[]) hΓ h3 hx;rw[z81,hc,<-ho] at hp;obtain⟨d,k1,k2⟩:=qy9 hΓ h3 hs.1 hx;simp only[List.forIn_cons,zj,hn,ne_eq,not_false_eq_true,if_true,zf,hp,run_checkKey k1 k2,zn,List.forIn_nil]
   ·cases h3
  ·split at h3
   ·rename_i a b;rw[z9] at h3;obtain⟨c1,c2,rfl,hx1,hx2⟩:=hx;have hp:=qhf (cs1:=cs1) (cs2:=c2) hΓ h3.1 hx1;rw[hc,<-ho] at hp;have e1:=hx1.size;obtain⟨d,k1,k2⟩:=qy9 hΓ h3.1 hs.1 hx1;have ih:=qus hΓ e (n:=n) h3.2 hs.2 (cs1:=cs1++c1) hx2 (by simp; omega)
    rw[zz] at ih;simp only[List.forIn_cons,zj,hn,ne_eq,not_false_eq_true,if_true,zf,hp,run_checkKey k1 k2,zn];exact ih
   ·cases h3
theorem qut{Γ:List TI}{kj:TI}(hΓ:Tys P Γ)(hj:kj.ok P)(h:keyOk Γ kj=true){x:kj.τ.den}{u:Value}(hx:RdV F w kj.τ x u):KeyV P w kj.t u:=by
 unfold keyOk at h;rw[zo1] at h;rcases h with h | h
 ·have hu:=qvT h hx;exact⟨fun e=>run_checkKey hj.und hu e 9999,run_keyThatStays hu⟩
 ·split at h
  ·rename_i fs hd;simp only[z9] at h;obtain⟨⟨⟨h1,h2⟩,h4⟩,h3⟩:=h;obtain⟨cs,hx1,rfl⟩:=hx;have hm:mkV kj.τ cs=.agg cs.toArray:=by unfold mkV; rw[h4]; rfl
   rw[hm];simp only[eqT] at h1;split at h1
   ·cases h1
   ·rename_i i hl;obtain⟨hi,hie⟩:=qax hΓ hl;have hdd:i.desc=kj.desc:=by
     have a1:=hi.und;rw[hie,hj.und] at a1;injection a1 with a1; exact a1.symm
    rw[hdd,hd] at h1;simp only[z9] at h1;refine⟨fun e=>?_,?_⟩
    ·have:=qus hΓ e (n:=9998) (cs1:=[]) h1.2.2 h3 hx1 rfl;have hu:=hj.und;rw[hd] at hu;unfold Instr.checkKey;simp only[zj,zq hu,zf];rw[<-Array.forIn_toList];simp only[zD] at this;rw[this]; rfl
    ·have hb:Instr.sameBits 10000 (.agg cs.toArray) (.agg cs.toArray)=true:=by
      show(cs.toArray.size==cs.toArray.size&&(cs.toArray.toList.zip cs.toArray.toList).all fun(x,y)=>Instr.sameBits 9999 x y)=true
      rw[z9,zx];refine⟨by simp,fun p hp=>?_⟩
      obtain⟨p1,p2⟩:=p;have hz:∀(l:List Value) (p:Value×Value),p∈l.zip l->p.1=p.2/\p.1∈l:=by
       intro l;induction l with
       | nil=>intro p hp; cases hp
       | cons c l ih=>
        intro p hp;rw[List.zip_cons_cons] at hp;rcases zE.1 hp with rfl | hp
        ·exact⟨rfl,by simp⟩
        ·exact⟨(ih p hp).1,zT _ (ih p hp).2⟩
      obtain⟨e1,hm⟩:=hz _ _ hp;have e1:p1=p2:=e1;subst e1;exact qkM h2 hx1 p1 (by simpa using hm) 9999
     simp only[Instr.keyThatStays,hb,if_true,zn]
  ·cases h
theorem quu{Γ:List TI}{kj:TI}(h:keyOk Γ kj=true):kj.τ.key=true:=by
 unfold keyOk at h;rw[zo1] at h;rcases h with h | h
 ·exact qy8 h
 ·split at h
  ·simp only[z9] at h; exact h.1.1.2
  ·cases h
theorem qqH{Γ:List TI}{kj:TI}(hΓ:Tys P Γ)(hk:kj.τ.key=true)(h:eqT Γ 2 kj.t kj.τ=true){x:kj.τ.den}{u:Value}(hx:RdV F w kj.τ x u):∀(l:List MapEntry) (i:Nat),(∀e∈l,∃y,RdV F w kj.τ y e.key)->
  ((Instr.findAsking kj.t u l i).run P w=.ok none w/\∀e∈l,e.key≠u)\/∃j e,(Instr.findAsking kj.t u l i).run P w=.ok (some (i+j,e.val)) w/\l[j]? = some e/\e.key=u
 | [],_,_=>.inl ⟨rfl,by simp⟩
 | e::es,i,hl=>by
  obtain⟨y,hy⟩:=hl e (by simp)
  have hr:(Op.equal kj.t u e.key).run P w=.ok (eqb kj.τ x y) w:=qp7 hΓ (n:=2) (d:=Op.maxDepth) (by decide) h hx hy
  rw[<-qs8 hk] at hr;have hi:=qqG hk hx hy;cases hb:(keyO kj.τ).eq x y with
  | true=>
   rw[hb] at hr;refine .inr ⟨0,e,?_,rfl,(hi.1 hb).symm⟩
   simp only[Instr.findAsking,zj,hr,zf,if_true,zn,z22]
  | false=>
   rw[hb] at hr;have hne:e.key≠u:=fun q=>by rw[hi.2 q.symm] at hb; cases hb
   have hs:(Instr.findAsking kj.t u (e::es) i).run P w=(Instr.findAsking kj.t u es (i+1)).run P w:=by
    simp only[Instr.findAsking,zj,hr,zf,zB2,if_false]
   rw[hs];rcases qqH hΓ hk h hx es (i+1) (fun e he=>hl e (by simp[he])) with⟨h1,h2⟩ | ⟨j,e',h1,h2,h3⟩
   ·exact .inl ⟨h1,fun x hx=>by
     cases hx with
     | head=>exact hne
     | tail _ hx=>exact h2 x hx⟩
   ·exact .inr ⟨j+1,e',by rw[h1]; congr 3; omega,by simpa using h2,h3⟩
theorem qqI{kt:TypeId}{d:TypeDesc}(hd:P.underlying kt=some d)(u:Value):(Instr.findKey kt u []).run P w=.ok none w:=by
 simp[Instr.findKey,zq hd,Result.andThen,Instr.findNow]
theorem qpk{Γ:List TI}{kj:TI}(hΓ:Tys P Γ)(hj:kj.ok P)(h:keyOk Γ kj=true){x:kj.τ.den}{u:Value}(hx:RdV F w kj.τ x u)(l:List MapEntry)(hl:∀e∈l,∃y,RdV F w kj.τ y e.key):
  ((Instr.findKey kj.t u l).run P w=.ok none w/\∀e∈l,e.key≠u)\/∃j e,(Instr.findKey kj.t u l).run P w=.ok (some (j,e.val)) w/\l[j]? = some e/\e.key=u:=by
 have h0:=h;unfold keyOk at h;rw[zo1] at h;rcases h with h | h
 ·have hu:=qvT h hx;rcases findNow_spec hu l 0 (fun e he=>by obtain⟨y,hy⟩:=hl e he; exact qvT h hy) with⟨h1,h2⟩ | ⟨j,e,h1,h2,h3⟩
  ·exact .inl ⟨run_findKey hj.und h1,h2⟩
  ·rw[z01] at h1;exact .inr ⟨j,e,run_findKey hj.und h1,h2,h3⟩
 ·split at h
  ·rename_i fs hd;simp only[z9] at h;obtain⟨⟨⟨h1,h2⟩,_⟩,h3⟩:=h;have hu:=hj.und;rw[hd] at hu;cases l with
   | nil=>exact .inl ⟨qqI hu u,by simp⟩
   | cons e es=>
    have hn:Instr.findNow (.struct fs) u (e::es) 0=none:=by simp[Instr.findNow,Instr.sameNow]
    have hs:(Instr.findKey kj.t u (e::es)).run P w=(Instr.findAsking kj.t u (e::es) 0).run P w:=by
     simp only[Instr.findKey,zj,zq hu,zf,hn]
    rw[hs];have:=qqH hΓ h2 h1 hx (e::es) 0 hl;simpa only[z01] using this
  ·cases h
theorem quv{τ:Ty}{z:Value}(h:zOk τ z=true):RdV F w τ τ.dflt z:=by
 unfold zOk at h;split at h
 ·rw[z9,zo,zo] at h;obtain⟨rfl,rfl⟩:=h;exact⟨_,rfl,rfl⟩
 ·rw[zu] at h; subst h;exact⟨_,rfl,rfl⟩
 ·rename_i s;obtain⟨⟨l⟩⟩:=s;simp at h; subst h;exact⟨_,rfl,rfl⟩
 ·exact⟨_,rfl,rfl⟩
 ·cases h
theorem qoR{A:Type}{L:List A}{j:Nat}{e:A}(h:L[j]? = some e):L.Perm (e::L.eraseIdx j):=by
 have hj:=(zp.1 h).1;have h2:=(zp.1 h).2;have hL:L=L.take j++e::L.drop (j+1):=by
  rw[<-h2,<-zf1 hj,zh1]
 rw[z72]
 conv=>lhs; rw[hL]
 exact List.perm_middle
theorem qpl{es:Array MapEntry}{j:Nat}(hj:j<es.size):(es.eraseIdxIfInBounds j).toList=es.toList.eraseIdx j:=by
 unfold Array.eraseIdxIfInBounds;rw[dif_pos hj,Array.toList_eraseIdx]
theorem qqJ{es:Array MapEntry}{j:Nat}{e:MapEntry}(f:MapEntry->MapEntry)(h:es[j]? = some e):(es.modify j f).toList.Perm (f e::(es.eraseIdxIfInBounds j).toList):=by
 have hj:=(z11.1 h).1;have h2:(es.modify j f).toList[j]? = some (f e):=by
  rw[zi1,z62,if_pos rfl,h]; rfl
 refine(qoR h2).trans ?_
 rw[qpl hj];have:(es.modify j f).toList.eraseIdx j=es.toList.eraseIdx j:=by
  apply zK1;intro i;rw[z13,z13];split
  ·rw[zi1,zi1,z62,if_neg (by omega)]
  ·rw[zi1,zi1,z62,if_neg (by omega)]
 rw[this]
theorem MapEs.more{l:List (k.den×v.den)}{es es':Array MapEntry}{clock clock':Nat}(h:MapEs F w k v l es clock){e:MapEntry}(hst:MapKept.Stamped es' clock')(hp:es'.toList.Perm (e::es.toList)){x:k.den}{y:v.den}(hx:RdV F w k x e.key)(hy:RdV F w v y e.val)(o:KO k.den):
  MapEs F w k v (mins o l x y) es' clock':=by
 obtain⟨Z,rfl,h2,h3⟩:=h.ent;obtain⟨i,hi⟩:=qy7 o x y (Z.map (·.1));refine⟨hst,Z.take i++((x,y),e)::Z.drop i,?_,?_,fun z hz=>?_⟩
 ·rw[hi]; simp
 ·rw[zt1,z41];refine List.perm_middle.trans ?_
  rw[<-zt1,zh1];exact(h2.cons e).trans hp.symm
 ·rcases zy.1 hz with hz | hz
  ·exact h3 z (zB1 hz)
  ·rcases zE.1 hz with rfl | hz
   ·exact⟨hx,hy⟩
   ·exact h3 z (zX1 hz)
theorem qp9{Γ:List TI}{kj:TI}(hΓ:Tys P Γ)(hj:kj.ok P){l:List (kj.τ.den×v.den)}{es:Array MapEntry}{clock:Nat}(hm:MapEs F w kj.τ v l es clock)(hk:keyOk Γ kj=true){x:kj.τ.den}{u:Value}(hx:RdV F w kj.τ x u):
  ((Instr.findKey kj.t u es.toList).run P w=.ok none w/\(∀e∈es.toList,e.key≠u)/\mget (keyO kj.τ) l x=none/\mdel (keyO kj.τ) l x=l)∨
  ∃(j:Nat) (e:MapEntry) (y:v.den),(Instr.findKey kj.t u es.toList).run P w=.ok (some (j,e.val)) w/\es[j]? = some e/\e.key=u/\mget (keyO kj.τ) l x=some y/\RdV F w v y e.val/\MapEs F w kj.τ v (mdel (keyO kj.τ) l x) (es.eraseIdxIfInBounds j) clock:=by
 obtain⟨Z,rfl,z2,z3⟩:=hm.ent;have hkk:=quu hk;have hks:∀e∈es.toList,∃y,RdV F w kj.τ y e.key:=by
  intro e he;obtain⟨z,hz,rfl⟩:=zX.1 (z2.mem_iff.2 he);exact⟨_,(z3 z hz).1⟩
 rcases qpk hΓ hj hk hx es.toList hks with⟨h1,h2⟩ | ⟨j,e,h1,h2,h3⟩
 ·refine .inl ⟨h1,h2,qvS fun q hq=>?_⟩
  obtain⟨z,hz,rfl⟩:=zX.1 hq;have hne:=h2 z.2 (z2.mem_iff.1 (z61 hz));cases hb:(keyO kj.τ).eq x z.1.1 with
  | false=>rfl
  | true=>exact absurd ((qqG hkk hx (z3 z hz).1).1 hb).symm hne
 ·have hj:=(zp.1 h2).1;obtain⟨z,hz,hze⟩:=zX.1 (z2.mem_iff.2 (zH h2));obtain⟨i,hi⟩:=zG1 hz;subst hze;have hkn:(Z.map (·.2.key)).Nodup:=by
   have:=(z2.map (·.key)).nodup_iff.2 hm.st.2.2;rwa[List.map_map] at this
  have hi2:(Z.map (·.1))[i]? = some z.1:=by rw[zG,hi]; rfl
  obtain⟨a1,a2⟩:=qvR (o:=keyO kj.τ) hi2 ((qqG hkk hx (z3 z hz).1).2 h3.symm) fun i' q hi' hq=>by
   rw[zG,z31] at hi';obtain⟨z',hz',rfl⟩:=hi';have h4:=(qqG hkk hx (z3 z' (zH hz')).1).1 hq;have g1:(Z.map (·.2.key))[i']? = some u:=by rw[zG,hz',h4]; rfl
   have g2:(Z.map (·.2.key))[i]? = some u:=by rw[zG,hi,<-h3]; rfl
   exact(List.getElem?_inj (by simpa using (zp.1 hz').1) hkn).1 (g1.trans g2.symm)
  refine .inr ⟨j,z.2,z.1.2,h1,by rw[<-zi1]; exact h2,h3,a1,(z3 z hz).2,stamped_erase hm.st j,Z.eraseIdx i,?_,?_,fun z' hz'=>z3 z' (List.mem_of_mem_eraseIdx hz')⟩
  ·rw[a2];rw[z72,z72,zt1,List.map_take,List.map_drop]
  ·rw[qpl (by simpa using hj)]
   have p1:=(qoR hi).map (·.2);rw[z41] at p1;have p2:=qoR h2;exact((p1.symm.trans z2).trans p2).cons_inv
end
section
variable {P:Program} {w0:World} {M:Mod} {N:Nat} {F0:Nat->Prop} {ops:Array Oper} {st:St} {Γ:List TI} {rty:TypeId}
variable {F:Nat->Prop} {ρ:Env} {a:Act} {w:World}
def mapTy(Γ:List TI)(t:TypeId):Option (TI×TI):=
 match look Γ t with
 | some i=>match i.desc with
  | .map kt et=>match look Γ kt,look Γ et with
   | some kj,some ej=>bif keyOk Γ kj&&zOk ej.τ ej.zero then some (kj,ej) else none
   | _,_=>none
  | _=>none
 | none=>none
theorem qjp(hΓ:Tys P Γ){t:TypeId}{kj ej:TI}(h:mapTy Γ t=some (kj,ej)):P.underlying t=some (.map kj.t ej.t)/\kj.ok P/\keyOk Γ kj=true/\zOk ej.τ ej.zero=true/\ej.ok P:=by
 unfold mapTy at h;split at h
 ·rename_i i hl;obtain⟨hi,rfl⟩:=qax hΓ hl;split at h
  ·rename_i kt et hd;split at h
   ·rename_i kj' ej' h1 h2;obtain⟨hk,rfl⟩:=qax hΓ h1;obtain⟨he,rfl⟩:=qax hΓ h2;cases hc:(keyOk Γ kj'&&zOk ej'.τ ej'.zero) with
    | false=>rw[hc] at h; cases h
    | true=>
     rw[hc] at h; injection h with h; injection h with h h'; subst h h'
     rw[z9] at hc;exact⟨by rw[hi.und,hd],hk,hc.1,hc.2,he⟩
   ·cases h
  ·cases h
 ·cases h
/-! ### A new map -/
def qqK(Γ:List TI)(st:St)(N d:Nat)(t:TypeId):Option MR:=
 match mapTy Γ t with
 | some (kj,ej)=>bif Nat.blt d N&&!st.d (fresh st d 8 0) then some ⟨true,[.d (fresh st d 8 0)],[.d (fresh st d 8 0),.a (fresh st d 8 0) (some (.map true (bif keyTy kj.desc kj.τ then t else t+1000000) kj.τ ej.τ [])),.r d (.own (fresh st d 8 0))]⟩ else none
 | none=>none
theorem quw{d:Nat}{t:TypeId}{r:MR}(h:qqK Γ st N d t=some r):MOk P w0 M N F0 ops st (some d) (.makeMap t none) rty r:=by
 unfold qqK at h;split at h
 ·rename_i kj ej hm;cases hc:(Nat.blt d N&&!st.d (fresh st d 8 0)) with
  | false=>rw[hc] at h; cases h
  | true=>
   rw[hc] at h; injection h with h; subst h
   rw[z9,zS,zu] at hc;intro pos af;refine RT.stepW rfl fun st' hag F ρ a w hr=>?_
   have hd':st'.d (fresh st d 8 0)=false:=by rw[<-hc.2]; exact(hag (.d _) (by simp)).symm
   have hob:ObOk F (w.alloc (.map #[] 0)) (.map true (bif keyTy kj.desc kj.τ then t else t+1000000) kj.τ ej.τ []) (.map (some w.heap.size)):=
    .inr ⟨w.heap.size,#[],0,rfl,(heap_alloc w _).1,stamped_empty 0,[],rfl,⟨.nil,fun _=>⟨rfl,rfl,fun i e h=>by simp at h⟩⟩,fun z hz=>by cases hz⟩
   refine⟨_,_,F,w.alloc (.map #[] 0),.inl ?_,hr.newA hd' hc.1 (qhW w _) hob (fun g hg=>by injection hg with hg; subst hg; exact zM _),fun _ h=>h,fun _ h=>.inl h⟩
   have hrun:(Instr.makeMap t none).run P w=.ok (.map (some w.heap.size)) (w.alloc (.map #[] 0)):=rfl;simp only[execOp,z12,hrun,zj,zn,zf]
 ·cases h
/-! ### An entry is looked up -/
def optS(τ:Ty)(ok:Bool)(z:τ.den)(x:Option τ.den):SV:=bif ok then .tup [.v τ (x.getD z),.b x.isSome] else .v τ (x.getD z)
def qs9(Γ:List TI)(st:St)(t:TypeId)(x ix:Operand)(ok:Bool):Option VR:=
 match mapTy Γ t,st.ev x with
 | some (kj,ej),.own b=>match st.a b,(st.ev ix).dat kj.τ with
  | some (.map nn ty k v l),some y=>if h:k=kj.τ/\v=ej.τ then some ⟨true,qab x++(qab ix++[bif nn&&(bornT ty&&!ok) then .g b else .a b]),optS ej.τ ok ej.τ.dflt (mget (keyO kj.τ) (h.1 ▸ h.2 ▸ l:List (kj.τ.den×ej.τ.den)) y)⟩ else none
  | _,_=>none
 | _,_=>none
theorem qoS{t kt et:TypeId}{z:Value}{i:TypeInfo}(ht:P.underlying t=some (.map kt et))(hi:P.info? et=some i)(hz:i.zero=some z){m:Value}{es:Array MapEntry}{u:Value}(hu:KeyV P w kt u)
  (hm:(m=.map none/\es=#[])\/∃r clock,m=.map (some r)/\w.heap[r]? = some (.map es clock)) {o:Option (Nat×Value)} (hf:(Instr.findKey kt u es.toList).run P w=.ok o w) (ok:Bool):
  (Instr.lookup t m u ok).run P w=.ok (bif ok then .tuple #[(o.map (·.2)).getD z,.bool o.isSome] else(o.map (·.2)).getD z) w:=by
 have hzv:(zeroValue et).run P w=.ok z w:=by simp[zeroValue,typeInfo,hi,hz,Result.andThen]
 rcases hm with⟨rfl,rfl⟩ | ⟨r,clock,rfl,hb⟩
 ·have hf':(Instr.findKey kt u []).run P w=.ok o w:=hf;cases o with
  | none=>cases ok <;> simp[Instr.lookup,zq ht,hu.chk,hf',hzv,Result.andThen]
  | some p=>cases ok <;> simp[Instr.lookup,zq ht,hu.chk,hf',hzv,Result.andThen]
 ·cases o with
  | none=>cases ok <;> simp[Instr.lookup,zq ht,zr1 hb,hu.chk,hf,hzv,Result.andThen]
  | some p=>cases ok <;> simp[Instr.lookup,zq ht,zr1 hb,hu.chk,hf,hzv,Result.andThen]
theorem qta{τ:Ty}{ok:Bool}{z:τ.den}{x:Option τ.den}{zv:Value}{o:Option (Nat×Value)}(hz:RdV F w τ z zv)(hx:(x=none/\o=none)\/∃y j u,x=some y/\o=some (j,u)/\RdV F w τ y u):
  Den P F w ρ (optS τ ok z x) (bif ok then .tuple #[(o.map (·.2)).getD zv,.bool o.isSome] else(o.map (·.2)).getD zv):=by
 have h1:RdV F w τ (x.getD z) ((o.map (·.2)).getD zv)/\x.isSome=o.isSome:=by
  rcases hx with⟨rfl,rfl⟩ | ⟨y,j,u,rfl,rfl,h⟩
  ·exact⟨hz,rfl⟩
  ·exact⟨h,rfl⟩
 cases ok with
 | false=>exact .v h1.1
 | true=>
  refine .tup (vs:=[_,_]) rfl fun i s u hs hu=>?_
  match i with
  | 0=>simp at hs hu; subst hs hu; exact .v h1.1
  | 1=>simp at hs hu; subst hs hu; rw[h1.2]; exact .v ⟨_,rfl,rfl⟩
  | i+2=>simp at hs
theorem qvU(hΓ:Tys P Γ){t:TypeId}{x ix:Operand}{ok:Bool}{r:VR}(h:qs9 Γ st t x ix ok=some r):VOk P w0 M N st (.lookup t x ix ok) rty r:=by
 unfold qs9 at h;split at h
 ·rename_i kj ej b hm hx;obtain⟨m1,m2,m3,m4,m5⟩:=qjp hΓ hm;split at h
  ·rename_i nn ty k v l y hA hy;split at h
   ·rename_i hkv;obtain⟨rfl,rfl⟩:=hkv;injection h with h; subst h
    intro st' hag F ρ a w hr dst pos af gd;have hxd:=hr.evx hag (fun _ h=>mem_l h) (x:=x)
    have hyd:=qbZ hy (hr.evx hag (fun _ h=>mem_r (mem_l h)) (x:=ix))
    rw[hx] at hxd;generalize he:a.eval x=u at hxd;cases hxd with
    | own hρ=>
     have hl:∃l':List (kj.τ.den×ej.τ.den),st'.a b=some (.map nn ty kj.τ ej.τ l')/\optS ej.τ ok ej.τ.dflt (mget (keyO kj.τ) l y)=optS ej.τ ok ej.τ.dflt (mget (keyO kj.τ) l' y):=by
      cases hc:(nn&&(bornT ty&&!ok)) with
      | false=>
       have hag':=hag (.a b) (by rw[hc]; simp)
       exact⟨l,by rw[<-(hag':st.a b=st'.a b)]; exact hA,rfl⟩
      | true=>
       have hag':=hag (.g b) (by rw[hc]; simp)
       simp only[z9,zu] at hc;obtain⟨rfl,_,rfl⟩:=hc;rcases(show SameG (st.a b) (st'.a b) from hag') with e | ⟨ty',k',v',m,m',g1,g2,g3,g4⟩
       ·exact⟨l,by rw[<-e]; exact hA,rfl⟩
       ·rw[hA] at g1;injection g1 with g1
        injection g1 with _ e1 e2 e3 e4
        subst e1 e2 e3;have e4:=eq_of_heq e4;subst e4;exact⟨m',g2,by show SV.v ej.τ _=SV.v ej.τ _; rw[g4 y]⟩
     obtain⟨l',hA',hopt⟩:=hl;show ∃u',_/\Den P F w ρ (optS ej.τ ok ej.τ.dflt (mget (keyO kj.τ) l y)) u';rw[hopt];obtain⟨u',q1,q2⟩:=hr.mem.arr b _ hA';rw[hρ] at q1; injection q1 with q1; subst q1
     obtain⟨inf,i1,i2,i3,i4⟩:=m5.info;have hu:=qut hΓ m2 m3 hyd;rcases q2 with⟨_,rfl,rfl⟩ | ⟨r,es,clock,rfl,h2,h3⟩
     ·have hrun:=qoS (w:=w) (o:=none) m1 i1 i4 hu (.inl ⟨rfl,rfl⟩) (qqI m2.und _) ok;exact⟨_,by simp only[execOp,he,hrun,zj,zn,zf],qta (quv m4) (.inl ⟨rfl,rfl⟩)⟩
     ·have hf:=qp9 hΓ m2 h3.es m3 hyd;rcases hf with⟨f1,_,f2,_⟩ | ⟨j,e,p,f1,_,_,f5,f6,_⟩
      ·have hrun:=qoS (w:=w) m1 i1 i4 hu (.inr ⟨r,clock,rfl,h2⟩) f1 ok;exact⟨_,by simp only[execOp,he,hrun,zj,zn,zf],qta (quv m4) (.inl ⟨f2,rfl⟩)⟩
      ·have hrun:=qoS (w:=w) m1 i1 i4 hu (.inr ⟨r,clock,rfl,h2⟩) f1 ok;exact⟨_,by simp only[execOp,he,hrun,zj,zn,zf],qta (quv m4) (.inr ⟨p,j,e.val,f5,rfl,f6⟩)⟩
   ·cases h
  ·cases h
 ·cases h
/-! ### How many entries there are -/
def qza(Γ:List TI)(st:St)(t:TypeId)(x:Operand):Option VR:=
 match mapTy Γ t,st.ev x with
 | some _,.own b=>match st.a b with
  | some (.map _ _ _ _ l)=>some ⟨true,qab x++[.a b],.v (.int .i64) (Int.ofNat l.length)⟩
  | _=>none
 | _,_=>none
theorem qzb(hΓ:Tys P Γ){t:TypeId}{x:Operand}{r:VR}(h:qza Γ st t x=some r):VOk P w0 M N st (.call { callee:=.builtin .len,args:=#[x],argTypes:=#[t] }) rty r:=by
 unfold qza at h;split at h
 ·rename_i kj b hm hx;obtain⟨kj,ej⟩:=kj;obtain⟨m1,_⟩:=qjp hΓ hm;split at h
  ·rename_i nn ty k v l hA;injection h with h; subst h
   intro st' hag F ρ a w hr dst pos af gd;have hxd:=hr.evx hag (fun _ h=>mem_l h) (x:=x)
   rw[hx] at hxd;generalize he:a.eval x=u at hxd;cases hxd with
   | own hρ=>
    obtain⟨u',q1,q2⟩:=hr.mem.arr b _ (by rw[<-(hag (.a b) (by simp):st.a b=st'.a b)]; exact hA)
    rw[hρ] at q1; injection q1 with q1; subst q1
    have fin:(Builtin.len_ #[t] rty #[u]).run P w=.ok (.int .i64 (Int.ofNat l.length)) w->∃u',(execOp a.eval ⟨dst,.call { callee:=.builtin .len,args:=#[x],argTypes:=#[t] },rty,pos,af,gd⟩).run P w=.ok (.value u') w/\Den P F w ρ (.v (.int .i64) (Int.ofNat l.length)) u':=fun hr'=>
     ⟨_,by simp only[execOp,resolve,invoke,builtin,zj,zn,zf,zw1,z41,zW1,he,hr'],.ofInt _ _⟩
    rcases q2 with⟨_,rfl,rfl⟩ | ⟨r,es,clock,rfl,h2,h3⟩
    ·exact fin (by simp[Builtin.len_,zq m1]; rfl)
    ·refine fin ?_
     rw[<-h3.es.size];simp[Builtin.len_,zq m1,zr1 h2]; rfl
  ·cases h
 ·cases h
/-! ### An entry is written; one is deleted -/
theorem Rel'.mapSet{b r clock clock':Nat}{ty:TypeId}{k v:Ty}{l l':List (k.den×v.den)}{es es':Array MapEntry}{nn:Bool}(h:Rel' P w0 M N F ρ st a w)(hA:st.a b=some (.map nn ty k v l))(hρ:ρ b=some (.map (some r)))
  (hb:w.heap[r]? = some (.map es clock)) (hes:MapEb ty F w k v l' es' clock'):Rel' P w0 M N F ρ (st.put (.a b (some (.map nn ty k v l')))) a { w with heap:=w.heap.setIfInBounds r (.map es' clock') }:=by
 have hp0:st.present b:=.inr (by rw[hA]; simp)
 have hd0:=h.dropA b;have hlt:r<w.heap.size:=(z11.1 hb).1;have hv0:st.v b=none:=by
  cases hx:st.v b with
  | none=>rfl
  | some x=>
   exfalso;obtain⟨g,arr,h1,_⟩:=h.mem.var b x.1 x.2 hx;rw[hρ] at h1; injection h1 with h1; cases h1
 have hfr:Fr w (fun g=>g=r) { w with heap:=w.heap.setIfInBounds r (.map es' clock') }:=
  ⟨rfl,rfl,rfl,by simp,fun g _ hg=>(heap_set hb).2 g hg⟩
 have hpr:∀b',(st.put (.a b none)).present b'->b'≠b/\st.present b':=by
  intro b' hp;by_cases e:b'=b
  ·subst e;exfalso;rcases hp with hp | hp
   ·exact hp hv0
   ·refine hp ?_
    show(bif Nat.beq b' b' then none else st.a b')=none;simp
  ·refine⟨e,?_⟩
   rcases hp with hp | hp
   ·exact .inl hp
   ·refine .inr ?_
    have hp':(bif Nat.beq b' b then none else st.a b')≠none:=hp;rw[bq e] at hp'; exact hp'
 have hdis:∀b' v g,(st.put (.a b none)).present b'->ρ b'=some v->blkOf v=some g->¬g=r:=by
  intro b' v g hp hv hg hgr;subst hgr;obtain⟨hne,hp'⟩:=hpr b' hp;exact hne (h.mem.sep b' b v _ g hp' hp0 hv hρ hg rfl)
 have hnF:∀g,F g->¬g=r:=fun g hF hg=>by subst hg; exact h.mem.own b _ g hp0 hρ rfl hF
 have h1:=hd0.move (F':=F) hfr hdis hnF (fun _ h=>h) (fun _ h=>.inl h) (fun g hg=>zL1 (h.mem.fb g hg) hfr.size) (fun g hg hlt'=>(h.lo b _ g hp0 hρ (by subst hg; rfl)).resolve_right (by omega))
 have hob:ObOk F { w with heap:=w.heap.setIfInBounds r (.map es' clock') } (.map nn ty k v l') (.map (some r)):=by
  obtain⟨Z,z1,z2,z3⟩:=hes.ent;refine .inr ⟨r,es',clock',rfl,(heap_set hb).1,hes.st,Z,z1,z2,fun z hz=>?_⟩
  have hc:∀g,F g->(w.heap.setIfInBounds r (.map es' clock'))[g]? = w.heap[g]?:=fun g hF=>(heap_set hb).2 _ (hnF _ hF)
  obtain⟨⟨c1,p1,p2⟩,⟨c2,s1,s2⟩⟩:=z3 z hz;exact⟨⟨c1,p1.mono (fun _ h=>h) hc,p2⟩,⟨c2,s1.mono (fun _ h=>h) hc,s2⟩⟩
 have h2:=h1.addA (b:=b) (A:=.map nn ty k v l') hρ hv0 hob (fun g hg=>⟨fun b' v hne hp hv' hbk=>by
   obtain⟨_,hp'⟩:=hpr b' hp;exact hne (h.mem.sep b' b v _ g hp' hp0 hv' hρ hbk hg),fun hF=>h.mem.own b _ g hp0 hρ hg hF,h.lo b _ g hp0 hρ hg⟩)
 have e:(st.put (.a b none)).put (.a b (some (.map nn ty k v l')))=st.put (.a b (some (.map nn ty k v l'))):=by
  show({ st with a:=_ }:St)={ st with a:=_ }
  congr 1;funext x;show(bif Nat.beq x b then _ else bif Nat.beq x b then none else st.a x)=bif Nat.beq x b then _ else st.a x;cases Nat.beq x b <;> rfl
 rwa[e] at h2
def qlP(Γ:List TI)(st:St)(t:TypeId)(x ix y:Operand):Option MR:=
 match mapTy Γ t,st.ev x with
 | some (kj,ej),.own b=>match st.a b,(st.ev ix).dat kj.τ,(st.ev y).dat ej.τ with
  | some (.map true ty k v l),some key,some val=>if h:k=kj.τ/\v=ej.τ then bif bornT ty then none else some ⟨true,qab x++(qab ix++(qab y++[.a b])),[.a b (some (.map true ty kj.τ ej.τ (mput (keyO kj.τ) (h.1 ▸ h.2 ▸ l:List (kj.τ.den×ej.τ.den)) key val)))]⟩ else none
  | _,_,_=>none
 | _,_=>none
theorem qnA{t kt et:TypeId}(ht:P.underlying t=some (.map kt et)){r:Nat}{es:Array MapEntry}{clock:Nat}(hb:w.heap[r]? = some (.map es clock)){u z:Value}(hu:KeyV P w kt u):
  ((Instr.findKey kt u es.toList).run P w=.ok none w->(Instr.mapUpdate t (.map (some r)) u z).run P w=.ok () { w with heap:=w.heap.setIfInBounds r (.map (es.push { key:=u,val:=z,born:=clock }) (clock+1)) })∧
  ∀j e,(Instr.findKey kt u es.toList).run P w=.ok (some (j,e.val)) w->es[j]? = some e->e.key=u->(Instr.mapUpdate t (.map (some r)) u z).run P w=.ok () { w with heap:=w.heap.setIfInBounds r (.map (es.modify j fun e=>{ e with key:=u,val:=z }) clock) }:=by
 constructor
 ·intro h1;simp[Instr.mapUpdate,zq ht,zr1 hb,hu.chk,h1,run_setObj_map _ hb,Result.andThen]
 ·intro j e h1 hj h3;simp[Instr.mapUpdate,zq ht,zr1 hb,hu.chk,h1,hj,h3,hu.stay,run_setObj_map _ hb,Result.andThen]
theorem qvV(hΓ:Tys P Γ){t:TypeId}{x ix y:Operand}{r:MR}(h:qlP Γ st t x ix y=some r):MOk P w0 M N F0 ops st none (.mapUpdate t x ix y) rty r:=by
 unfold qlP at h;split at h
 ·rename_i kj ej b hm hx;obtain⟨m1,m2,m3,m4,m5⟩:=qjp hΓ hm;split at h
  ·rename_i ty k v l key val hA hk hv;split at h
   ·rename_i hkv;obtain⟨rfl,rfl⟩:=hkv;cases hbt:bornT ty with
    | true=>rw[hbt] at h; cases h
    | false=>
    rw[hbt] at h;injection h with h; subst h
    intro pos af;refine RT.stepW rfl fun st' hag F ρ a w hr=>?_
    have hxd:=hr.evx hag (fun _ h=>mem_l h) (x:=x)
    have hkd:=qbZ hk (hr.evx hag (fun _ h=>mem_r (mem_l h)) (x:=ix))
    have hvd:=qbZ hv (hr.evx hag (fun _ h=>mem_r (mem_r (mem_l h))) (x:=y))
    have hA':st'.a b=some (.map true ty kj.τ ej.τ l):=by rw[<-(hag (.a b) (by simp):st.a b=st'.a b)]; exact hA
    rw[hx] at hxd;generalize he:a.eval x=u at hxd;cases hxd with
    | own hρ=>
     obtain⟨u',q1,q2⟩:=hr.mem.arr b _ hA';rw[hρ] at q1; injection q1 with q1; subst q1
     rcases q2 with⟨q2,_⟩ | ⟨r,es,clock,rfl,h2,h3⟩
     ·cases q2
     have hu:=qut hΓ m2 m3 hkd;obtain⟨r1,r2⟩:=qnA (P:=P) (w:=w) (z:=a.eval y) m1 h2 hu;have hf:=qp9 hΓ m2 h3.es m3 hkd;rcases hf with⟨f1,f0,_,f2⟩ | ⟨j,e,p,f1,f2,f3,_,_,f6⟩
     ·have hm0:=h3.es;rw[<-f2] at hm0;have hR:=hr.mapSet hA' hρ h2 (MapEs.eb hbt (hm0.more (e:={ key:=a.eval ix,val:=a.eval y,born:=clock }) (stamped_push h3.st f0) (by rw[zY2]; exact List.perm_append_singleton _ _) hkd hvd (keyO kj.τ)))
      refine⟨undef,ρ,F,_,.inr ⟨?_,rfl⟩,hR,fun _ h=>h,fun _ h=>.inl h⟩
      simp only[execOp,he,r1 f1,zj,zn,zf]
     ·have hR:=hr.mapSet hA' hρ h2 (MapEs.eb hbt (f6.more (e:={ e with key:=a.eval ix,val:=a.eval y }) (stamped_modify h3.st j (fun e=>{ e with key:=a.eval ix,val:=a.eval y }) (fun _ _=>rfl) (fun e' _ he'=>by rw[f2] at he'; injection he' with he'; subst he'; exact f3.symm)) (qqJ _ f2) hkd hvd (keyO kj.τ)))
      refine⟨undef,ρ,F,_,.inr ⟨?_,rfl⟩,hR,fun _ h=>h,fun _ h=>.inl h⟩
      simp only[execOp,he,r2 j e f1 f2 f3,zj,zn,zf]
   ·cases h
  ·cases h
 ·cases h
theorem qvW(hΓ:Tys P Γ){t:TypeId}{x ix y:Operand}{r:MR}(h:qlP Γ st t x ix y=some r):MOk P w0 M N F0 ops st none (.insert t x ix y) rty r:=by
 unfold qlP at h;split at h
 ·rename_i kj ej b hm hx;obtain⟨m1,m2,m3,m4,m5⟩:=qjp hΓ hm;split at h
  ·rename_i ty k v l key val hA hk hv;split at h
   ·rename_i hkv;obtain⟨rfl,rfl⟩:=hkv;cases hbt:bornT ty with
    | true=>rw[hbt] at h; cases h
    | false=>
    rw[hbt] at h;injection h with h; subst h
    intro pos af;refine RT.stepW rfl fun st' hag F ρ a w hr=>?_
    have hxd:=hr.evx hag (fun _ h=>mem_l h) (x:=x)
    have hkd:=qbZ hk (hr.evx hag (fun _ h=>mem_r (mem_l h)) (x:=ix))
    have hvd:=qbZ hv (hr.evx hag (fun _ h=>mem_r (mem_r (mem_l h))) (x:=y))
    have hA':st'.a b=some (.map true ty kj.τ ej.τ l):=by rw[<-(hag (.a b) (by simp):st.a b=st'.a b)]; exact hA
    rw[hx] at hxd;generalize he:a.eval x=u at hxd;cases hxd with
    | own hρ=>
     obtain⟨u',q1,q2⟩:=hr.mem.arr b _ hA';rw[hρ] at q1; injection q1 with q1; subst q1
     rcases q2 with⟨q2,_⟩ | ⟨r,es,clock,rfl,h2,h3⟩
     ·cases q2
     have hu:=qut hΓ m2 m3 hkd;obtain⟨r1,r2⟩:=qnA (P:=P) (w:=w) (z:=a.eval y) m1 h2 hu;have hf:=qp9 hΓ m2 h3.es m3 hkd;rcases hf with⟨f1,f0,_,f2⟩ | ⟨j,e,p,f1,f2,f3,_,_,f6⟩
     ·have hm0:=h3.es;rw[<-f2] at hm0;have hR:=hr.mapSet hA' hρ h2 (MapEs.eb hbt (hm0.more (e:={ key:=a.eval ix,val:=a.eval y,born:=clock }) (stamped_push h3.st f0) (by rw[zY2]; exact List.perm_append_singleton _ _) hkd hvd (keyO kj.τ)))
      refine⟨undef,ρ,F,_,.inr ⟨?_,rfl⟩,hR,fun _ h=>h,fun _ h=>.inl h⟩
      simp only[execOp,he,r1 f1,zj,zn,zf]
     ·have hR:=hr.mapSet hA' hρ h2 (MapEs.eb hbt (f6.more (e:={ e with key:=a.eval ix,val:=a.eval y }) (stamped_modify h3.st j (fun e=>{ e with key:=a.eval ix,val:=a.eval y }) (fun _ _=>rfl) (fun e' _ he'=>by rw[f2] at he'; injection he' with he'; subst he'; exact f3.symm)) (qqJ _ f2) hkd hvd (keyO kj.τ)))
      refine⟨undef,ρ,F,_,.inr ⟨?_,rfl⟩,hR,fun _ h=>h,fun _ h=>.inl h⟩
      simp only[execOp,he,r2 j e f1 f2 f3,zj,zn,zf]
   ·cases h
  ·cases h
 ·cases h
def qtb(Γ:List TI)(st:St)(t:TypeId)(x ix:Operand):Option MR:=
 match mapTy Γ t,st.ev x with
 | some (kj,ej),.own b=>match st.a b,(st.ev ix).dat kj.τ with
  | some (.map true ty k v l),some key=>if h:k=kj.τ/\v=ej.τ then bif bornT ty then none else some ⟨true,qab x++(qab ix++[.a b]),[.a b (some (.map true ty kj.τ ej.τ (mdel (keyO kj.τ) (h.1 ▸ h.2 ▸ l:List (kj.τ.den×ej.τ.den)) key)))]⟩ else none
  | _,_=>none
 | _,_=>none
theorem qnB{r:Nat}{o:Obj}(hb:w.heap[r]? = some o):w.heap.setIfInBounds r o=w.heap:=by
 apply Array.ext_getElem?;intro i;rw[zf2];split
 ·rename_i e; subst e;rw[if_pos (z11.1 hb).1,hb]
 ·rfl
theorem qxS{t kt et:TypeId}(ht:P.underlying t=some (.map kt et)){r:Nat}{es:Array MapEntry}{clock:Nat}(hb:w.heap[r]? = some (.map es clock)){u:Value}(hu:KeyV P w kt u){ty:TypeId}{ats:Array TypeId}(hats:ats[0]? = some t):
  ((Instr.findKey kt u es.toList).run P w=.ok none w->(Builtin.delete_ ats ty #[.map (some r),u]).run P w=.ok (.tuple #[]) w)∧
  ∀j z,(Instr.findKey kt u es.toList).run P w=.ok (some (j,z)) w->(Builtin.delete_ ats ty #[.map (some r),u]).run P w=.ok (.tuple #[]) { w with heap:=w.heap.setIfInBounds r (.map (es.eraseIdxIfInBounds j) clock) }:=by
 constructor
 ·intro h1;simp[Builtin.delete_,hats,zq ht,zr1 hb,hu.chk,h1,run_setObj_map _ hb,Result.andThen,qnB hb]
 ·intro j z h1;simp[Builtin.delete_,hats,zq ht,zr1 hb,hu.chk,h1,run_setObj_map _ hb,Result.andThen]
theorem qvX(hΓ:Tys P Γ){t t2:TypeId}{dst:Option Nat}{x ix:Operand}{r:MR}(h:qtb Γ st t x ix=some r)(hdst:∀d,dst=some d->False):MOk P w0 M N F0 ops st dst (.call { callee:=.builtin .delete,args:=#[x,ix],argTypes:=#[t,t2] }) rty r:=by
 cases dst with
 | some d=>exact(hdst d rfl).elim
 | none=>
 unfold qtb at h;split at h
 ·rename_i kj ej b hm hx;obtain⟨m1,m2,m3,m4,m5⟩:=qjp hΓ hm;split at h
  ·rename_i ty k v l key hA hk;split at h
   ·rename_i hkv;obtain⟨rfl,rfl⟩:=hkv;cases hbt:bornT ty with
    | true=>rw[hbt] at h; cases h
    | false=>
    rw[hbt] at h;injection h with h; subst h
    intro pos af;refine RT.stepW rfl fun st' hag F ρ a w hr=>?_
    have hxd:=hr.evx hag (fun _ h=>mem_l h) (x:=x)
    have hkd:=qbZ hk (hr.evx hag (fun _ h=>mem_r (mem_l h)) (x:=ix))
    have hA':st'.a b=some (.map true ty kj.τ ej.τ l):=by rw[<-(hag (.a b) (by simp):st.a b=st'.a b)]; exact hA
    rw[hx] at hxd;generalize he:a.eval x=u at hxd;cases hxd with
    | own hρ=>
     obtain⟨u',q1,q2⟩:=hr.mem.arr b _ hA';rw[hρ] at q1; injection q1 with q1; subst q1
     rcases q2 with⟨q2,_⟩ | ⟨r,es,clock,rfl,h2,h3⟩
     ·cases q2
     have hu:=qut hΓ m2 m3 hkd;obtain⟨r1,r2⟩:=qxS (P:=P) (w:=w) (ty:=rty) (ats:=#[t,t2]) m1 h2 hu rfl;have hf:=qp9 hΓ m2 h3.es m3 hkd;rcases hf with⟨f1,_,_,f2⟩ | ⟨j,e,p,f1,_,_,_,_,f6⟩
     ·have hR:=hr.mapSet hA' hρ h2 h3;rw[qnB h2] at hR;refine⟨.tuple #[],ρ,F,w,.inl ?_,?_,fun _ h=>h,fun _ h=>.inl h⟩
      ·simp only[execOp,resolve,invoke,builtin,zj,zn,zf,zw1,z41,zW1,he,r1 f1]
      ·show Rel' P w0 M N F ρ (st'.put (.a b (some (.map true ty kj.τ ej.τ (mdel (keyO kj.τ) l key))))) a w;rw[f2];exact hR
     ·have hR:=hr.mapSet hA' hρ h2 (f6.eb hbt);refine⟨.tuple #[],ρ,F,_,.inl ?_,hR,fun _ h=>h,fun _ h=>.inl h⟩
      simp only[execOp,resolve,invoke,builtin,zj,zn,zf,zw1,z41,zW1,he,r2 j e.val f1]
   ·cases h
  ·cases h
 ·cases h
/-! ### The entry of a key; a value is put into it -/
theorem qzc{Γ:List TI}(hΓ:Tys P Γ){kj:TI}{v:Ty}(hj:kj.ok P){ty:TypeId}(hbt:bornT ty=true){l:List (kj.τ.den×v.den)}{es:Array MapEntry}{clock:Nat}(hm:MapEb ty F w kj.τ v l es clock)(hk:keyOk Γ kj=true){x:kj.τ.den}{u:Value}(hx:RdV F w kj.τ x u){z:v.den}{zv:Value}(hz:RdV F w v z zv):
  ((Instr.findKey kj.t u es.toList).run P w=.ok none w/\mget (keyO kj.τ) l x=none/\midx (keyO kj.τ) l x=clock/\MapEb ty F w kj.τ v (ment (keyO kj.τ) l x z) (es.push { key:=u,val:=zv,born:=clock }) (clock+1))∨
  ∃(j:Nat) (e:MapEntry) (y:v.den),(Instr.findKey kj.t u es.toList).run P w=.ok (some (j,e.val)) w/\es[j]? = some e/\e.key=u/\e.born=j/\mget (keyO kj.τ) l x=some y/\RdV F w v y e.val/\midx (keyO kj.τ) l x=j/\ment (keyO kj.τ) l x z=l:=by
 obtain⟨hst,Z,rfl,z2,z3⟩:=hm;obtain⟨z4,z5,z6⟩:=z2.2 hbt;have hkk:=quu hk;have hks:∀e∈es.toList,∃y,RdV F w kj.τ y e.key:=by
  intro e he;rw[<-z4] at he;obtain⟨z,hz,rfl⟩:=zX.1 he;exact⟨_,(z3 z hz).1⟩
 rcases qpk hΓ hj hk hx es.toList hks with⟨h1,h2⟩ | ⟨j,e,h1,h2,h3⟩
 ·have hno:∀q∈Z.map (·.1),(keyO kj.τ).eq x q.1=false:=by
   intro q hq;obtain⟨z',hz',rfl⟩:=zX.1 hq;have hne:=h2 z'.2 (by rw[<-z4]; exact z61 hz')
   cases hb:(keyO kj.τ).eq x z'.1.1 with
   | false=>rfl
   | true=>exact absurd ((qqG hkk hx (z3 z' hz').1).1 hb).symm hne
  obtain⟨a1,a2⟩:=qy5 (z:=z) hno;have hlen:Z.length=es.size:=by have:=congrArg List.length z4; simpa using this
  refine .inl ⟨h1,(qvS hno).1,by rw[a2,z5,z91,hlen],stamped_push hst h2,Z++[((x,z),{ key:=u,val:=zv,born:=clock })],?_,⟨?_,fun _=>⟨?_,?_,?_⟩⟩,?_⟩
  ·rw[a1]; simp
  ·rw[zt1,zY2,z4]; exact .refl _
  ·rw[zt1,zY2,z4]; rfl
  ·rw[z5]; simp
  ·intro i e he;rw[zt1] at he;by_cases hi:i<(Z.map (·.2)).length
   ·rw[zQ hi] at he; exact z6 i e he
   ·rw[zL (by omega)] at he
    simp only[z41,zW1,z91] at he hi;have hi0:i-Z.length=0:=by
     rcases zM1 (i-Z.length) with h | h
     ·exact h
     ·rw[zv1 (by simp; omega)] at he; cases he
    rw[hi0] at he;injection he with he; subst he
    show clock=i;omega
  ·intro q hq;rcases zy.1 hq with hq | hq
   ·exact z3 q hq
   ·rw[zI.1 hq]; exact⟨hx,hz⟩
 ·have hZ:(Z.map (·.2))[j]? = some e:=by rw[z4]; exact h2
  have hb:=z6 j e hZ;rw[zG,z31] at hZ;obtain⟨q,hq,rfl⟩:=hZ;have hqm:=zH hq;have hi2:(Z.map (·.1))[j]? = some q.1:=by rw[zG,hq]; rfl
  have hkn:(Z.map (·.2.key)).Nodup:=by
   have h:=hst.2.2;rw[<-z4,List.map_map] at h;exact h
  have huniq:∀i q',(Z.map (·.1))[i]? = some q'->(keyO kj.τ).eq x q'.1=true->i=j:=by
   intro i q' hi' hq';rw[zG,z31] at hi';obtain⟨z',hz',rfl⟩:=hi';have h4:=(qqG hkk hx (z3 z' (zH hz')).1).1 hq';have g1:(Z.map (·.2.key))[i]? = some u:=by rw[zG,hz',h4]; rfl
   have g2:(Z.map (·.2.key))[j]? = some u:=by rw[zG,hq,<-h3]; rfl
   exact(List.getElem?_inj (by simpa using (zp.1 hz').1) hkn).1 (g1.trans g2.symm)
  have heq:=(qqG hkk hx (z3 q hqm).1).2 h3.symm;obtain⟨a1,a2⟩:=qvR hi2 heq huniq;obtain⟨b1,b2⟩:=qy4 (z:=z) hi2 heq huniq;exact .inr ⟨j,q.2,q.1.2,h1,by rw[<-zi1]; exact h2,h3,hb,a1,(z3 q hqm).2,b2,b1⟩
def qtc(Γ:List TI)(st:St)(N d:Nat)(t:TypeId)(x ix:Operand):Option MR:=
 match mapTy Γ t,st.ev x with
 | some (kj,ej),.own b=>match st.a b,(st.ev ix).dat kj.τ with
  | some (.map true ty k v l),some key=>if h:k=kj.τ/\v=ej.τ then bif bornT ty&&Nat.blt d N then some ⟨true,qab x++(qab ix++[.a b]),
    [.e b kj.τ key,.r d (.tup [.v ej.τ ((mget (keyO kj.τ) (h.1 ▸ h.2 ▸ l:List (kj.τ.den×ej.τ.den)) key).getD ej.τ.dflt),.v (.int .i64) (Int.ofNat (midx (keyO kj.τ) (h.1 ▸ h.2 ▸ l:List (kj.τ.den×ej.τ.den)) key))])]⟩ else none else none
  | _,_=>none
 | _,_=>none
theorem qux{t kt et:TypeId}{zv:Value}{i:TypeInfo}(ht:P.underlying t=some (.map kt et))(hi:P.info? et=some i)(hz:i.zero=some zv){r:Nat}{es:Array MapEntry}{clock:Nat}(hb:w.heap[r]? = some (.map es clock)){u:Value}(hu:KeyV P w kt u):
  ((Instr.findKey kt u es.toList).run P w=.ok none w->(Instr.mapEntry t (.map (some r)) u).run P w=.ok (.tuple #[zv,.int .i64 (clock:Int)]) { w with heap:=w.heap.setIfInBounds r (.map (es.push { key:=u,val:=zv,born:=clock }) (clock+1)) })∧
  ∀j e,(Instr.findKey kt u es.toList).run P w=.ok (some (j,e.val)) w->es[j]? = some e->e.key=u->(Instr.mapEntry t (.map (some r)) u).run P w=.ok (.tuple #[e.val,.int .i64 (e.born:Int)]) w:=by
 have hzv:(zeroValue et).run P w=.ok zv w:=by simp[zeroValue,typeInfo,hi,hz,Result.andThen]
 constructor
 ·intro h1;simp[Instr.mapEntry,zq ht,zr1 hb,hu.chk,h1,hzv,run_setObj_map _ hb,Result.andThen,goInt]
 ·intro j e h1 hj h3;have hm:(es.modify j fun e=>{ e with key:=u })=es:=by
   apply Array.ext_getElem?;intro i;rw[z62];split
   ·rename_i e1; subst e1;rw[hj,<-h3]; rfl
   ·rfl
  have hself:w.heap.setIfInBounds r (.map es clock)=w.heap:=qnB hb;have hset:=run_setObj_map (P:=P) (w:=w) (.map es clock) hb;rw[hself] at hset;simp[Instr.mapEntry,zq ht,zr1 hb,hu.chk,h1,hj,h3,hu.stay,hm,hset,Result.andThen,goInt]
theorem qvY(hΓ:Tys P Γ){d:Nat}{t:TypeId}{x ix:Operand}{r:MR}(h:qtc Γ st N d t x ix=some r):MOk P w0 M N F0 ops st (some d) (.mapEntry t x ix) rty r:=by
 unfold qtc at h;split at h
 ·rename_i kj ej b hm hx;obtain⟨m1,m2,m3,m4,m5⟩:=qjp hΓ hm;split at h
  ·rename_i ty k v l key hA hk;split at h
   ·rename_i hkv;obtain⟨rfl,rfl⟩:=hkv;cases hbt:(bornT ty&&Nat.blt d N) with
    | false=>rw[hbt] at h; cases h
    | true=>
    rw[hbt] at h;injection h with h; subst h
    rw[z9,zS] at hbt;intro pos af;refine RT.stepW rfl fun st' hag F ρ a w hr=>?_
    have hxd:=hr.evx hag (fun _ h=>mem_l h) (x:=x)
    have hkd:=qbZ hk (hr.evx hag (fun _ h=>mem_r (mem_l h)) (x:=ix))
    have hA':st'.a b=some (.map true ty kj.τ ej.τ l):=by rw[<-(hag (.a b) (by simp):st.a b=st'.a b)]; exact hA
    rw[hx] at hxd;generalize he:a.eval x=u at hxd;cases hxd with
    | own hρ=>
     obtain⟨u',q1,q2⟩:=hr.mem.arr b _ hA';rw[hρ] at q1; injection q1 with q1; subst q1
     rcases q2 with⟨q2,_⟩ | ⟨r,es,clock,rfl,h2,h3⟩
     ·cases q2
     have hu:=qut hΓ m2 m3 hkd;have hput:∀l':List (kj.τ.den×ej.τ.den),ment (keyO kj.τ) l key ej.τ.dflt=l'->st'.put (.e b kj.τ key)=st'.put (.a b (some (.map true ty kj.τ ej.τ l'))):=by
      intro l' hl';have hadd:addE kj.τ key (st'.a b)=some (.map true ty kj.τ ej.τ l'):=by
       rw[hA'];show(if h:kj.τ=kj.τ then(bif bornT ty then some (Ob.map true ty kj.τ ej.τ (ment (keyO kj.τ) l (h ▸ key) ej.τ.dflt)) else some (.map true ty kj.τ ej.τ l)) else some (.map true ty kj.τ ej.τ l))=_
       rw[dif_pos rfl,hbt.1];show some (Ob.map true ty kj.τ ej.τ (ment (keyO kj.τ) l key ej.τ.dflt))=_;rw[hl']
      show({ st' with a:=_ }:St)={ st' with a:=_ }
      rw[hadd]
     obtain⟨inf,i1,i2,i3,i4⟩:=m5.info;obtain⟨r1,r2⟩:=qux (P:=P) (w:=w) m1 i1 i4 h2 hu;rcases qzc hΓ m2 hbt.1 h3 m3 hkd (quv m4) with⟨f1,f2,f3,f4⟩ | ⟨j,e,y,f1,f2,f3,f4,f5,f6,f7,f8⟩
     ·have hR:=hr.mapSet hA' hρ h2 f4;rw[<-hput _ rfl] at hR;refine⟨.tuple #[ej.zero,.int .i64 (clock:Int)],ρ,F,_,.inl ?_,hR.setR hbt.2 ?_,fun _ h=>h,fun _ h=>.inl h⟩
      ·simp only[execOp,he,r1 f1,zj,zn,zf]
      ·rw[f2,f3];refine .tup (vs:=[_,_]) rfl fun i s u hs hu=>?_
       match i with
       | 0=>simp at hs hu; subst hs hu; exact .v (quv m4)
       | 1=>simp at hs hu; subst hs hu; exact .v ⟨_,rfl,rfl⟩
       | i+2=>simp at hs
     ·have hR:=hr.mapSet hA' hρ h2 h3;rw[qnB h2] at hR;refine⟨.tuple #[e.val,.int .i64 (e.born:Int)],ρ,F,w,.inl ?_,?_,fun _ h=>h,fun _ h=>.inl h⟩
      ·simp only[execOp,he,r2 j e f1 f2 f3,zj,zn,zf]
      ·refine Rel'.setR (st:=st'.put (.e b kj.τ key)) ?_ hbt.2 ?_
       ·rw[hput l f8]; exact hR
       ·rw[f5,f7,f4];refine .tup (vs:=[_,_]) rfl fun i s u hs hu=>?_
        match i with
        | 0=>simp at hs hu; subst hs hu; exact .v f6
        | 1=>simp at hs hu; subst hs hu; exact .v ⟨_,rfl,rfl⟩
        | i+2=>simp at hs
   ·cases h
  ·cases h
 ·cases h
def qvZ(st:St)(x s y:Operand):Option MR:=
 match st.ev x with
 | .own b=>match st.a b,(st.ev s).int? with
  | some (.map true ty k v l),some (_,m)=>match(st.ev y).dat v with
   | some val=>bif bornT ty then some ⟨decide (0<=m)&&Nat.blt m.toNat l.length,qab x++(qab s++(qab y++[.a b])),[.a b (some (.map true ty k v (mset l m.toNat val)))]⟩ else none
   | none=>none
  | _,_=>none
 | _=>none
theorem qrR{t:TypeId}{r:Nat}{es:Array MapEntry}{clock j:Nat}{kd:IntKind}{z:Value}(hb:w.heap[r]? = some (.map es clock))(hf:es.findIdx? (fun e=>(e.born:Int)==(j:Int))=some j):
  (Instr.entryStore t (.map (some r)) (.int kd (j:Int)) z).run P w=.ok () { w with heap:=w.heap.setIfInBounds r (.map (es.modify j fun e=>{ e with val:=z }) clock) }:=by
 simp[Instr.entryStore,zr1 hb,asInt,asIntOf,hf,run_setObj_map _ hb,Result.andThen]
theorem qxT{t:TypeId}{x s y:Operand}{r:MR}(h:qvZ st x s y=some r)(hg:r.g=true):MOk P w0 M N F0 ops st none (.entryStore t x s y) rty r:=by
 unfold qvZ at h;split at h
 ·rename_i b hx;split at h
  ·rename_i ty k v l kd m hA hs;split at h
   ·rename_i val hv;cases hbt:bornT ty with
    | false=>rw[hbt] at h; cases h
    | true=>
    rw[hbt] at h;injection h with h; subst h
    rw[z9,zo,zS] at hg;intro pos af;refine RT.stepW rfl fun st' hag F ρ a w hr=>?_
    have hxd:=hr.evx hag (fun _ h=>mem_l h) (x:=x)
    have hsd:=(hr.evx hag (fun _ h=>mem_r (mem_l h)) (x:=s)).int hs
    have hvd:=qbZ hv (hr.evx hag (fun _ h=>mem_r (mem_r (mem_l h))) (x:=y))
    have hA':st'.a b=some (.map true ty k v l):=by rw[<-(hag (.a b) (by simp):st.a b=st'.a b)]; exact hA
    rw[hx] at hxd;generalize he:a.eval x=u at hxd;cases hxd with
    | own hρ=>
     obtain⟨u',q1,q2⟩:=hr.mem.arr b _ hA';rw[hρ] at q1; injection q1 with q1; subst q1
     rcases q2 with⟨q2,_⟩ | ⟨r,es,clock,rfl,h2,h3⟩
     ·cases q2
     obtain⟨hst,Z,rfl,z2,z3⟩:=h3;obtain⟨z4,z5,z6⟩:=z2.2 hbt;obtain⟨j,rfl⟩:∃j:Nat,m=(j:Int):=⟨m.toNat,(Int.toNat_of_nonneg hg.1).symm⟩;have hj:j<Z.length:=by simpa using hg.2
     have hjz:Z[j]? = some Z[j]:=zi hj;have hej:es[j]? = some Z[j].2:=by rw[<-zi1,<-z4,zG,hjz]; rfl
     have hborn:∀(i:Nat) (e:MapEntry),es[i]? = some e->e.born=i:=fun i e h=>z6 i e (by rw[z4,zi1]; exact h)
     have hfi:es.findIdx? (fun e=>(e.born:Int)==(j:Int))=some j:=by
      rw[Array.findIdx?_eq_some_iff_getElem]
      have hjs:=(z11.1 hej).1;refine⟨hjs,?_,fun i hi=>?_⟩
      ·have:=hborn j es[j] (zm1 hjs);simp[this]
      ·have:=hborn i es[i] (zm1 (by omega))
       simp only[this,beq_iff_eq,z32,beq_eq_false_iff_ne,ne_eq];omega
     have hl:(Z.map (·.1))[j]? = some Z[j].1:=by rw[zG,hjz]; rfl
     have hms:=qy6 val hl;have hes:MapEb ty F w k v (mset (Z.map (·.1)) j val) (es.modify j fun e=>{ e with val:=a.eval y }) clock:=by
      refine⟨stamped_modify hst j _ (fun _ _=>rfl) (fun _ _ _=>rfl),Z.set j ((Z[j].1.1,val),{ Z[j].2 with val:=a.eval y }),?_,?_,?_⟩
      ·rw[hms,List.map_set]
      ·have e1:(Z.set j ((Z[j].1.1,val),{ Z[j].2 with val:=a.eval y })).map (·.2)=(es.modify j fun e=>{ e with val:=a.eval y }).toList:=by
        apply zK1;intro i;have e2:∀(X:Array MapEntry),X.toList[i]? = X[i]?:=fun X=>zi1
        rw[List.map_set,List.getElem?_set,z4,e2 (Array.modify _ _ _),z62]
        by_cases hij:j=i
        ·subst hij;have:j<es.toList.length:=by rw[<-z4]; simpa using hj
         rw[if_pos rfl,if_pos this,if_pos rfl,hej]; rfl
        ·rw[if_neg hij,if_neg hij,zi1]
       refine⟨by rw[e1],fun _=>⟨e1,by rw[z5]; simp,fun i e hi=>?_⟩⟩
       rw[e1,zi1,z62] at hi;split at hi
       ·rw[z31] at hi;obtain⟨e',h',rfl⟩:=hi;exact hborn i e' h'
       ·exact hborn i e hi
      ·intro q hq;rcases zu2 hq with hq | rfl
       ·exact z3 q hq
       ·exact⟨(z3 _ (zL2 hj)).1,hvd⟩
     have hR:=hr.mapSet hA' hρ h2 hes;refine⟨undef,ρ,F,_,.inr ⟨?_,rfl⟩,hR,fun _ h=>h,fun _ h=>.inl h⟩
     have hse:a.eval s=.int kd (j:Int):=hsd;simp only[execOp,he,hse,qrR (P:=P) (t:=t) (kd:=kd) (z:=a.eval y) h2 hfi,zj,zn,zf]
   ·cases h
  ·cases h
 ·cases h
def qzd(Γ:List TI)(st:St):Op->Option VR
 | .lookup t x ix ok=>qs9 Γ st t x ix ok
 | .call ⟨.builtin .len,⟨[x]⟩,⟨[t]⟩⟩=>qza Γ st t x
 | _=>none
theorem qze(hΓ:Tys P Γ){op:Op}{r:VR}(h:qzd Γ st op=some r):VOk P w0 M N st op rty r:=by
 unfold qzd at h;split at h
 ·exact qvU hΓ h
 ·exact qzb hΓ h
 ·cases h
def qzf(Γ:List TI)(st:St)(N:Nat)(dst:Option Nat):Op->Option MR
 | .makeMap t none=>match dst with
  | some d=>qqK Γ st N d t
  | none=>none
 | .mapUpdate t x ix y=>match dst with
  | none=>qlP Γ st t x ix y
  | some _=>none
 | .insert t x ix y=>match dst with
  | none=>qlP Γ st t x ix y
  | some _=>none
 | .call ⟨.builtin .delete,⟨[x,ix]⟩,⟨[t,t2]⟩⟩=>match dst with
  | none=>qtb Γ st t x ix
  | some _=>none
 | .mapEntry t x ix=>match dst with
  | some d=>qtc Γ st N d t x ix
  | none=>none
 | .entryStore _ x s y=>match dst with
  | none=>qvZ st x s y
  | some _=>none
 | _=>none
theorem qzg(hΓ:Tys P Γ){dst:Option Nat}{op:Op}{r:MR}(h:qzf Γ st N dst op=some r)(hg:r.g=true):MOk P w0 M N F0 ops st dst op rty r:=by
 unfold qzf at h;split at h
 all_goals first | (cases h; done) | (split at h <;> first | (cases h; done) | skip)
 ·exact quw h
 ·exact qvV hΓ h
 ·exact qvW hΓ h
 ·exact qvX hΓ h (fun d e=>by cases e)
 ·exact qvY hΓ h
 ·exact qxT h hg
end
end Go.Sq
