/- The second engine, part MA: maps that a call makes: entries are looked up, written, deleted, counted. No condition. -/
import Derived.Test.YtmdijohmddokhaaGreatDoorSqM
namespace Go.Sq
open Go Go.RowKit Go.MapKept
def mdel{K V:Type}(o:KO K):List (K×V)->K->List (K×V)
 | [],_=>[]
 | p::r,x=>bif o.eq x p.1 then r else p::mdel o r x
def mins{K V:Type}(o:KO K):List (K×V)->K->V->List (K×V)
 | [],x,y=>[(x,y)]
 | p::r,x,y=>bif o.lt x p.1 then(x,y)::p::r else p::mins o r x y
def mput{K V:Type}(o:KO K)(l:List (K×V))(x:K)(y:V):List (K×V):=mins o (mdel o l x) x y
theorem qzD{K V:Type}{o:KO K}{x:K}:∀ {l:List (K×V)} {j:Nat} {p:K×V},l[j]? = some p->o.eq x p.1=true->(∀i q,l[i]? = some q->o.eq x q.1=true->i=j)->
  mget o l x=some p.2/\mdel o l x=l.eraseIdx j
 | [],j,p,h,_,_=>by simp at h
 | q::r,j,p,h,hp,hu=>by
  cases hq:o.eq x q.1 with
  | true=>
   have h0:=hu 0 q rfl hq;subst h0;simp at h; subst h;exact⟨by simp[mget,hq],by simp[mdel,hq]⟩
  | false=>
   cases j with
   | zero=>simp at h; subst h; rw[hp] at hq; cases hq
   | succ j=>
    obtain⟨a1,a2⟩:=qzD (l:=r) (j:=j) (p:=p) (by simpa using h) hp (fun i q hi he=>by have:=hu (i+1) q (by simpa using hi) he; omega)
    exact⟨by simp[mget,hq,a1],by simp[mdel,hq,a2]⟩
theorem qzE{K V:Type}{o:KO K}{x:K}:∀ {l:List (K×V)},(∀q∈l,o.eq x q.1=false)->mget o l x=none/\mdel o l x=l
 | [],_=>⟨rfl,rfl⟩
 | q::r,h=>by
  have hq:=h q (by simp)
  obtain⟨a1,a2⟩:=qzE (l:=r) fun p hp=>h p (by simp[hp])
  exact⟨by simp[mget,hq,a1],by simp[mdel,hq,a2]⟩
theorem qzF{K V:Type}(o:KO K)(x:K)(y:V):∀(l:List (K×V)),∃i,mins o l x y=l.take i++(x,y)::l.drop i
 | []=>⟨0,rfl⟩
 | p::r=>by
  unfold mins;cases o.lt x p.1 with
  | true=>exact⟨0,rfl⟩
  | false=>
   obtain⟨i,h⟩:=qzF o x y r;exact⟨i+1,by simp[h]⟩
abbrev keyI:KO Int:=keyO (.int .i64)
def keyTy:TypeDesc->Ty->Bool
 | .int q,.int q'=>decide (q=q')
 | .string,.str=>true
 | .bool,.bool=>true
 | _,_=>false
def zOk:Ty->Value->Bool
 | .int q,.int q' n=>decide (q=q')&&decide (n=0)
 | .bool,.bool b=>!b
 | .str,.string s=>s.data.toList.isEmpty
 | .fnl _,.nilFunc=>true
 | _,_=>false
section
variable {P:Program} {F:Nat->Prop} {w:World} {k v:Ty} {d:TypeDesc}
theorem qwy{x:k.den}{u:Value}(h:keyTy d k=true)(hx:RdV F w k x u):IsKey d u:=by
 obtain⟨cs,h1,rfl⟩:=hx;unfold keyTy at h;split at h
 ·cases h1; exact(zi h).symm
 ·cases h1; trivial
 ·cases h1; trivial
 ·cases h
theorem qDw{q:IntKind}{x y:Int}:(keyO (.int q)).eq x y=true↔Value.int q x=Value.int q y:=by
 show decide (x=y)=true↔_;rw[zj];exact⟨fun e=>by rw[e],fun e=>by injection e⟩
theorem qDx{x y:List UInt8}:(keyO .str).eq x y=true↔Value.string ⟨⟨x⟩⟩=Value.string ⟨⟨y⟩⟩:=by
 show decide (x=y)=true↔_;rw[zj];exact⟨fun e=>by rw[e],fun e=>by injection e with e; injection e with e; injection e⟩
theorem qBF{x y:Bool}:(keyO .bool).eq x y=true↔Value.bool x=Value.bool y:=by
 show(x==y)=true↔_;rw[zT2];exact⟨fun e=>by rw[e],fun e=>by injection e⟩
def Ty.key:Ty->Bool
 | .int _ | .str | .bool | .unit=>true
 | .pair a b=>a.key&&b.key
 | _=>false
theorem qrw:∀ {k:Ty} {x y:k.den} {cs ds:List Value},k.key=true->RdC F w k x cs->RdC F w k y ds->((keyO k).eq x y=true↔cs=ds)
 | .int q,x,y,cs,ds,_,hx,hy=>by
  cases hx; cases hy;exact qDw.trans ⟨fun e=>by rw[e],fun e=>by injection e⟩
 | .str,x,y,cs,ds,_,hx,hy=>by
  cases hx; cases hy;exact qDx.trans ⟨fun e=>by rw[e],fun e=>by injection e⟩
 | .bool,x,y,cs,ds,_,hx,hy=>by
  cases hx; cases hy;exact qBF.trans ⟨fun e=>by rw[e],fun e=>by injection e⟩
 | .unit,x,y,cs,ds,_,hx,hy=>by
  cases hx; cases hy;exact⟨fun _=>rfl,fun _=>rfl⟩
 | .pair a b,x,y,cs,ds,h,hx,hy=>by
  simp only[Ty.key,z8] at h;obtain⟨c1,c2,rfl,h1,h2⟩:=hx;obtain⟨d1,d2,rfl,h3,h4⟩:=hy;have e1:=h1.size;have e2:=h3.size;show((keyO a).eq x.1 y.1&&(keyO b).eq x.2 y.2)=true↔_;rw[z8,qrw h.1 h1 h3,qrw h.2 h2 h4];exact⟨fun e=>by rw[e.1,e.2],fun e=>List.append_inj e (by omega)⟩
theorem qDy{k:Ty}{cs ds:List Value}(h1:cs.length=k.size)(h2:ds.length=k.size):mkV k cs=mkV k ds↔cs=ds:=by
 refine⟨fun e=>?_,fun e=>by rw[e]⟩
 unfold mkV at e;cases hg:k.agg with
 | true=>
  rw[hg] at e; simp only[za] at e;injection e with e
  have:=congrArg Array.toList e;simpa using this
 | false=>
  rw[hg] at e; simp only[zb] at e;have hs:k.size=1:=by revert hg; cases k <;> intro hg <;> first | rfl | cases hg
  rw[hs] at h1 h2;obtain⟨c,rfl⟩:=zo1.1 h1;obtain⟨c',rfl⟩:=zo1.1 h2;have e':c=c':=e;rw[e']
theorem qxo{x y:k.den}{u u':Value}(h:k.key=true)(hx:RdV F w k x u)(hy:RdV F w k y u'):(keyO k).eq x y=true↔u=u':=by
 obtain⟨cs,h1,rfl⟩:=hx;obtain⟨ds,h2,rfl⟩:=hy;exact(qrw h h1 h2).trans (qDy h1.size h2.size).symm
theorem qtS:∀ {k:Ty},k.key=true->∀x y,(keyO k).eq x y=eqb k x y
 | .int _,_,_,_=>rfl
 | .str,_,_,_=>rfl
 | .bool,_,_,_=>rfl
 | .unit,_,_,_=>rfl
 | .pair a b,h,x,y=>by
  simp only[Ty.key,z8] at h;show((keyO a).eq x.1 y.1&&(keyO b).eq x.2 y.2)=(eqb a x.1 y.1&&eqb b x.2 y.2);rw[qtS h.1,qtS h.2]
theorem qzG(h:keyTy d k=true):k.key=true:=by
 unfold keyTy at h;split at h
 ·rfl
 ·rfl
 ·rfl
 ·cases h
theorem qEw(n:Nat)(q:IntKind)(x:Int):Instr.sameBits n (.int q x) (.int q x)=true:=by cases n <;> simp[Instr.sameBits]
theorem qEx(n:Nat)(x:ByteArray):Instr.sameBits n (.string x) (.string x)=true:=by
 have:(x==x)=true:=(bytes_beq x x).2 rfl;cases n <;> simp[Instr.sameBits,this]
theorem qDz(n:Nat)(x:Bool):Instr.sameBits n (.bool x) (.bool x)=true:=by cases n <;> simp[Instr.sameBits]
theorem qly:∀ {k:Ty} {x:k.den} {cs:List Value},k.key=true->RdC F w k x cs->∀v∈cs,∀n,Instr.sameBits n v v=true
 | .int q,x,cs,_,hx=>by cases hx; intro v hv n; rw[zW.1 hv]; exact qEw n q x
 | .str,x,cs,_,hx=>by cases hx; intro v hv n; rw[zW.1 hv]; exact qEx n _
 | .bool,x,cs,_,hx=>by cases hx; intro v hv n; rw[zW.1 hv]; exact qDz n x
 | .unit,x,cs,_,hx=>by cases hx; intro v hv; simp at hv
 | .pair a b,x,cs,h,hx=>by
  simp only[Ty.key,z8] at h;obtain⟨c1,c2,rfl,h1,h2⟩:=hx;intro v hv n;rcases zD.1 hv with hv | hv
  ·exact qly h.1 h1 v hv n
  ·exact qly h.2 h2 v hv n
def scalD:TypeDesc->Bool
 | .bool | .int _ | .string=>true
 | _=>false
def keyOk(Γ:List TI)(kj:TI):Bool:=keyTy kj.desc kj.τ || (match kj.desc with
 | .struct fs=>eqT Γ 2 kj.t kj.τ&&kj.τ.key&&kj.τ.agg&&fs.toList.all fun f=>match look Γ f.type with
  | some i=>scalD i.desc
  | none=>false
 | _=>false)
structure KeyV(P:Program)(w:World)(kt:TypeId)(u:Value):Prop where
 chk:∀e,(Instr.checkKey e 10000 kt u).run P w=.ok () w
 stay:(Instr.keyThatStays u u).run P w=.ok u w
theorem qzH{Γ:List TI}(hΓ:Tys P Γ){t:TypeId}{τ:Ty}(h:eqT Γ 1 t τ=true)(hs:(match look Γ t with | some i=>scalD i.desc | none=>false)=true){x:τ.den}{cs:List Value}(hx:RdC F w τ x cs):∃d,P.underlying t=some d/\IsKey d (mkV τ cs):=by
 simp only[eqT] at h;split at h
 ·cases h
 ·rename_i i hl;rw[hl] at hs;obtain⟨hi,rfl⟩:=qau hΓ hl;refine⟨_,hi.und,?_⟩
  rw[z8] at h;obtain⟨_,h⟩:=h;split at h
  ·rename_i hd; rw[hd]; have:=zi h; subst this; cases hx; trivial
  ·rename_i hd; rw[hd]; have:=zi h; subst this; cases hx; exact rfl
  ·rename_i hd; rw[hd]; have:=zi h; subst this; cases hx; trivial
  ·rename_i hd; simp only[hd] at hs; cases hs
  ·rename_i hd; simp only[hd] at hs; cases hs
  ·cases h
theorem qvq{Γ:List TI}(hΓ:Tys P Γ)(e:Bool){n:Nat}:∀ {fs:List Field} {o:Nat} {τ:Ty},eqFs (eqT Γ 1) fs o τ=true->(fs.all fun f=>match look Γ f.type with
  | some i=>scalD i.desc
  | none=>false)=true->∀ {x:τ.den} {cs cs1:List Value},RdC F w τ x cs->cs1.length=o->
   (forIn fs PUnit.unit (fun(f:Field) (_:PUnit)=>do
    if f.name ≠ "_" then
     let v<-part f.type (cs1++cs).toArray f.offset
     Instr.checkKey e (n+1) f.type v
     pure (ForInStep.yield PUnit.unit)
    else pure (ForInStep.yield PUnit.unit))).run P w=.ok PUnit.unit w
 | [],o,τ,h,hs,x,cs,cs1,hx,hc=>by simp
 | f::r,o,τ,h,hs,x,cs,cs1,hx,hc=>by
  simp only[eqFs,z8,zd1,zq] at h;simp only[z11,z8] at hs;obtain⟨⟨h1,h2⟩,h3⟩:=h;have ho:=zc h2;have hn:f.name ≠ "_" :=by simpa using h1
  rcases h3 with h3 | h3
  ·split at h3
   ·have hp:=qh1 (cs1:=cs1) (cs2:=[]) hΓ h3 hx;rw[zM,hc,<-ho] at hp;obtain⟨d,k1,k2⟩:=qzH hΓ h3 hs.1 hx;simp only[List.forIn_cons,zl,hn,ne_eq,not_false_eq_true,if_true,ze,hp,run_checkKey k1 k2,zo,List.forIn_nil]
   ·cases h3
  ·split at h3
   ·rename_i a b;rw[z8] at h3;obtain⟨c1,c2,rfl,hx1,hx2⟩:=hx;have hp:=qh1 (cs1:=cs1) (cs2:=c2) hΓ h3.1 hx1;rw[hc,<-ho] at hp;have e1:=hx1.size;obtain⟨d,k1,k2⟩:=qzH hΓ h3.1 hs.1 hx1;have ih:=qvq hΓ e (n:=n) h3.2 hs.2 (cs1:=cs1++c1) hx2 (by simp; omega)
    rw[zu] at ih;simp only[List.forIn_cons,zl,hn,ne_eq,not_false_eq_true,if_true,ze,hp,run_checkKey k1 k2,zo];exact ih
   ·cases h3
theorem qvr{Γ:List TI}{kj:TI}(hΓ:Tys P Γ)(hj:kj.ok P)(h:keyOk Γ kj=true){x:kj.τ.den}{u:Value}(hx:RdV F w kj.τ x u):KeyV P w kj.t u:=by
 unfold keyOk at h;rw[zd1] at h;rcases h with h | h
 ·have hu:=qwy h hx;exact⟨fun e=>run_checkKey hj.und hu e 9999,run_keyThatStays hu⟩
 ·split at h
  ·rename_i fs hd;simp only[z8] at h;obtain⟨⟨⟨h1,h2⟩,h4⟩,h3⟩:=h;obtain⟨cs,hx1,rfl⟩:=hx;have hm:mkV kj.τ cs=.agg cs.toArray:=by unfold mkV; rw[h4]; rfl
   rw[hm];simp only[eqT] at h1;split at h1
   ·cases h1
   ·rename_i i hl;obtain⟨hi,hie⟩:=qau hΓ hl;have hdd:i.desc=kj.desc:=by
     have a1:=hi.und;rw[hie,hj.und] at a1;injection a1 with a1; exact a1.symm
    rw[hdd,hd] at h1;simp only[z8] at h1;refine⟨fun e=>?_,?_⟩
    ·have:=qvq hΓ e (n:=9998) (cs1:=[]) h1.2.2 h3 hx1 rfl;have hu:=hj.und;rw[hd] at hu;unfold Instr.checkKey;simp only[zl,zt hu,ze];rw[<-Array.forIn_toList];simp only[zC] at this;rw[this]; rfl
    ·have hb:Instr.sameBits 10000 (.agg cs.toArray) (.agg cs.toArray)=true:=by
      show(cs.toArray.size==cs.toArray.size&&(cs.toArray.toList.zip cs.toArray.toList).all fun(x,y)=>Instr.sameBits 9999 x y)=true
      rw[z8,zm];refine⟨by simp,fun p hp=>?_⟩
      obtain⟨p1,p2⟩:=p;have hz:∀(l:List Value) (p:Value×Value),p∈l.zip l->p.1=p.2/\p.1∈l:=by
       intro l;induction l with
       | nil=>intro p hp; cases hp
       | cons c l ih=>
        intro p hp;rw[List.zip_cons_cons] at hp;rcases zw.1 hp with rfl | hp
        ·exact⟨rfl,by simp⟩
        ·exact⟨(ih p hp).1,zO _ (ih p hp).2⟩
      obtain⟨e1,hm⟩:=hz _ _ hp;have e1:p1=p2:=e1;subst e1;exact qly h2 hx1 p1 (by simpa using hm) 9999
     simp only[Instr.keyThatStays,hb,if_true,zo]
  ·cases h
theorem qzI{Γ:List TI}{kj:TI}(h:keyOk Γ kj=true):kj.τ.key=true:=by
 unfold keyOk at h;rw[zd1] at h;rcases h with h | h
 ·exact qzG h
 ·split at h
  ·simp only[z8] at h; exact h.1.1.2
  ·cases h
theorem qrx{Γ:List TI}{kj:TI}(hΓ:Tys P Γ)(hk:kj.τ.key=true)(h:eqT Γ 2 kj.t kj.τ=true){x:kj.τ.den}{u:Value}(hx:RdV F w kj.τ x u):∀(l:List MapEntry) (i:Nat),(∀e∈l,∃y,RdV F w kj.τ y e.key)->
  ((Instr.findAsking kj.t u l i).run P w=.ok none w/\∀e∈l,e.key≠u)\/∃j e,(Instr.findAsking kj.t u l i).run P w=.ok (some (i+j,e.val)) w/\l[j]? = some e/\e.key=u
 | [],_,_=>.inl ⟨rfl,by simp⟩
 | e::es,i,hl=>by
  obtain⟨y,hy⟩:=hl e (by simp)
  have hr:(Op.equal kj.t u e.key).run P w=.ok (eqb kj.τ x y) w:=qq0 hΓ (n:=2) (d:=Op.maxDepth) (by decide) h hx hy
  rw[<-qtS hk] at hr;have hi:=qxo hk hx hy;cases hb:(keyO kj.τ).eq x y with
  | true=>
   rw[hb] at hr;refine .inr ⟨0,e,?_,rfl,(hi.1 hb).symm⟩
   simp only[Instr.findAsking,zl,hr,ze,if_true,zo,zP1]
  | false=>
   rw[hb] at hr;have hne:e.key≠u:=fun q=>by rw[hi.2 q.symm] at hb; cases hb
   have hs:(Instr.findAsking kj.t u (e::es) i).run P w=(Instr.findAsking kj.t u es (i+1)).run P w:=by
    simp only[Instr.findAsking,zl,hr,ze,zQ1,if_false]
   rw[hs];rcases qrx hΓ hk h hx es (i+1) (fun e he=>hl e (by simp[he])) with⟨h1,h2⟩ | ⟨j,e',h1,h2,h3⟩
   ·exact .inl ⟨h1,fun x hx=>by
     cases hx with
     | head=>exact hne
     | tail _ hx=>exact h2 x hx⟩
   ·exact .inr ⟨j+1,e',by rw[h1]; congr 3; omega,by simpa using h2,h3⟩
theorem qry{kt:TypeId}{d:TypeDesc}(hd:P.underlying kt=some d)(u:Value):(Instr.findKey kt u []).run P w=.ok none w:=by
 simp[Instr.findKey,zt hd,Result.andThen,Instr.findNow]
theorem qlz{Γ:List TI}{kj:TI}(hΓ:Tys P Γ)(hj:kj.ok P)(h:keyOk Γ kj=true){x:kj.τ.den}{u:Value}(hx:RdV F w kj.τ x u)(l:List MapEntry)(hl:∀e∈l,∃y,RdV F w kj.τ y e.key):
  ((Instr.findKey kj.t u l).run P w=.ok none w/\∀e∈l,e.key≠u)\/∃j e,(Instr.findKey kj.t u l).run P w=.ok (some (j,e.val)) w/\l[j]? = some e/\e.key=u:=by
 have h0:=h;unfold keyOk at h;rw[zd1] at h;rcases h with h | h
 ·have hu:=qwy h hx;rcases findNow_spec hu l 0 (fun e he=>by obtain⟨y,hy⟩:=hl e he; exact qwy h hy) with⟨h1,h2⟩ | ⟨j,e,h1,h2,h3⟩
  ·exact .inl ⟨run_findKey hj.und h1,h2⟩
  ·rw[zY] at h1;exact .inr ⟨j,e,run_findKey hj.und h1,h2,h3⟩
 ·split at h
  ·rename_i fs hd;simp only[z8] at h;obtain⟨⟨⟨h1,h2⟩,_⟩,h3⟩:=h;have hu:=hj.und;rw[hd] at hu;cases l with
   | nil=>exact .inl ⟨qry hu u,by simp⟩
   | cons e es=>
    have hn:Instr.findNow (.struct fs) u (e::es) 0=none:=by simp[Instr.findNow,Instr.sameNow]
    have hs:(Instr.findKey kj.t u (e::es)).run P w=(Instr.findAsking kj.t u (e::es) 0).run P w:=by
     simp only[Instr.findKey,zl,zt hu,ze,hn]
    rw[hs];have:=qrx hΓ h2 h1 hx (e::es) 0 hl;simpa only[zY] using this
  ·cases h
theorem qzJ{τ:Ty}{z:Value}(h:zOk τ z=true):RdV F w τ τ.dflt z:=by
 unfold zOk at h;split at h
 ·rw[z8,zj,zj] at h;obtain⟨rfl,rfl⟩:=h;exact⟨_,rfl,rfl⟩
 ·rw[zq] at h; subst h;exact⟨_,rfl,rfl⟩
 ·rename_i s;obtain⟨⟨l⟩⟩:=s;simp at h; subst h;exact⟨_,rfl,rfl⟩
 ·exact⟨_,rfl,rfl⟩
 ·cases h
theorem qpU{A:Type}{L:List A}{j:Nat}{e:A}(h:L[j]? = some e):L.Perm (e::L.eraseIdx j):=by
 have hj:=(zr.1 h).1;have h2:=(zr.1 h).2;have hL:L=L.take j++e::L.drop (j+1):=by
  rw[<-h2,<-ze1 hj,zD1]
 rw[zs2]
 conv=>lhs; rw[hL]
 exact List.perm_middle
theorem qqn{es:Array MapEntry}{j:Nat}(hj:j<es.size):(es.eraseIdxIfInBounds j).toList=es.toList.eraseIdx j:=by
 unfold Array.eraseIdxIfInBounds;rw[dif_pos hj,Array.toList_eraseIdx]
theorem qrz{es:Array MapEntry}{j:Nat}{e:MapEntry}(f:MapEntry->MapEntry)(h:es[j]? = some e):(es.modify j f).toList.Perm (f e::(es.eraseIdxIfInBounds j).toList):=by
 have hj:=(zT.1 h).1;have h2:(es.modify j f).toList[j]? = some (f e):=by
  rw[zG1,zC2,if_pos rfl,h]; rfl
 refine(qpU h2).trans ?_
 rw[qqn hj];have:(es.modify j f).toList.eraseIdx j=es.toList.eraseIdx j:=by
  apply zC1;intro i;rw[List.getElem?_eraseIdx,List.getElem?_eraseIdx]
  split
  ·rw[zG1,zG1,zC2,if_neg (by omega)]
  ·rw[zG1,zG1,zC2,if_neg (by omega)]
 rw[this]
theorem MapEs.more{l:List (k.den×v.den)}{es es':Array MapEntry}{clock clock':Nat}(h:MapEs F w k v l es clock){e:MapEntry}(hst:MapKept.Stamped es' clock')(hp:es'.toList.Perm (e::es.toList)){x:k.den}{y:v.den}(hx:RdV F w k x e.key)(hy:RdV F w v y e.val)(o:KO k.den):
  MapEs F w k v (mins o l x y) es' clock':=by
 obtain⟨Z,rfl,h2,h3⟩:=h.ent;obtain⟨i,hi⟩:=qzF o x y (Z.map (·.1));refine⟨hst,Z.take i++((x,y),e)::Z.drop i,?_,?_,fun z hz=>?_⟩
 ·rw[hi]; simp
 ·rw[zH1,zh1];refine List.perm_middle.trans ?_
  rw[<-zH1,zD1];exact(h2.cons e).trans hp.symm
 ·rcases zD.1 hz with hz | hz
  ·exact h3 z (zj2 hz)
  ·rcases zw.1 hz with rfl | hz
   ·exact⟨hx,hy⟩
   ·exact h3 z (zF2 hz)
theorem qtT{Γ:List TI}{kj:TI}(hΓ:Tys P Γ)(hj:kj.ok P){l:List (kj.τ.den×v.den)}{es:Array MapEntry}{clock:Nat}(hm:MapEs F w kj.τ v l es clock)(hk:keyOk Γ kj=true){x:kj.τ.den}{u:Value}(hx:RdV F w kj.τ x u):
  ((Instr.findKey kj.t u es.toList).run P w=.ok none w/\(∀e∈es.toList,e.key≠u)/\mget (keyO kj.τ) l x=none/\mdel (keyO kj.τ) l x=l)∨
  ∃(j:Nat) (e:MapEntry) (y:v.den),(Instr.findKey kj.t u es.toList).run P w=.ok (some (j,e.val)) w/\es[j]? = some e/\e.key=u/\mget (keyO kj.τ) l x=some y/\RdV F w v y e.val/\MapEs F w kj.τ v (mdel (keyO kj.τ) l x) (es.eraseIdxIfInBounds j) clock:=by
 obtain⟨Z,rfl,z2,z3⟩:=hm.ent;have hkk:=qzI hk;have hks:∀e∈es.toList,∃y,RdV F w kj.τ y e.key:=by
  intro e he;obtain⟨z,hz,rfl⟩:=zS.1 (z2.mem_iff.2 he);exact⟨_,(z3 z hz).1⟩
 rcases qlz hΓ hj hk hx es.toList hks with⟨h1,h2⟩ | ⟨j,e,h1,h2,h3⟩
 ·refine .inl ⟨h1,h2,qzE fun q hq=>?_⟩
  obtain⟨z,hz,rfl⟩:=zS.1 hq;have hne:=h2 z.2 (z2.mem_iff.1 (zm1 hz));cases hb:(keyO kj.τ).eq x z.1.1 with
  | false=>rfl
  | true=>exact absurd ((qxo hkk hx (z3 z hz).1).1 hb).symm hne
 ·have hj:=(zr.1 h2).1;obtain⟨z,hz,hze⟩:=zS.1 (z2.mem_iff.2 (zF h2));obtain⟨i,hi⟩:=zp1 hz;subst hze;have hkn:(Z.map (·.2.key)).Nodup:=by
   have:=(z2.map (·.key)).nodup_iff.2 hm.st.2.2;rwa[List.map_map] at this
  have hi2:(Z.map (·.1))[i]? = some z.1:=by rw[zL,hi]; rfl
  obtain⟨a1,a2⟩:=qzD (o:=keyO kj.τ) hi2 ((qxo hkk hx (z3 z hz).1).2 h3.symm) fun i' q hi' hq=>by
   rw[zL,zc1] at hi';obtain⟨z',hz',rfl⟩:=hi';have h4:=(qxo hkk hx (z3 z' (zF hz')).1).1 hq;have g1:(Z.map (·.2.key))[i']? = some u:=by rw[zL,hz',h4]; rfl
   have g2:(Z.map (·.2.key))[i]? = some u:=by rw[zL,hi,<-h3]; rfl
   exact(List.getElem?_inj (by simpa using (zr.1 hz').1) hkn).1 (g1.trans g2.symm)
  refine .inr ⟨j,z.2,z.1.2,h1,by rw[<-zG1]; exact h2,h3,a1,(z3 z hz).2,stamped_erase hm.st j,Z.eraseIdx i,?_,?_,fun z' hz'=>z3 z' (List.mem_of_mem_eraseIdx hz')⟩
  ·rw[a2];rw[zs2,zs2,zH1,List.map_take,List.map_drop]
  ·rw[qqn (by simpa using hj)]
   have p1:=(qpU hi).map (·.2);rw[zh1] at p1;have p2:=qpU h2;exact((p1.symm.trans z2).trans p2).cons_inv
end
section
variable {P:Program} {w0:World} {M:Mod} {N:Nat} {F0:Nat->Prop} {ops:Array Oper} {st:St} {Γ:List TI} {rty:TypeId}
variable {F:Nat->Prop} {ρ:Env} {a:Act} {w:World}
def mapTy(Γ:List TI)(t:TypeId):Option (TI×TI):=
 match look Γ t with
 | some i=>match i.desc with
  | .map kt et=>match look Γ kt,look Γ et with
   | some kj,some ej=>bif keyOk Γ kj&&zOk ej.τ ej.zero then some (kj,ej) else none
   | _,_=>none
  | _=>none
 | none=>none
theorem qtU(hΓ:Tys P Γ){t:TypeId}{kj ej:TI}(h:mapTy Γ t=some (kj,ej)):P.underlying t=some (.map kj.t ej.t)/\kj.ok P/\keyOk Γ kj=true/\zOk ej.τ ej.zero=true/\ej.ok P:=by
 unfold mapTy at h;split at h
 ·rename_i i hl;obtain⟨hi,rfl⟩:=qau hΓ hl;split at h
  ·rename_i kt et hd;split at h
   ·rename_i kj' ej' h1 h2;obtain⟨hk,rfl⟩:=qau hΓ h1;obtain⟨he,rfl⟩:=qau hΓ h2;cases hc:(keyOk Γ kj'&&zOk ej'.τ ej'.zero) with
    | false=>rw[hc] at h; cases h
    | true=>
     rw[hc] at h; injection h with h; injection h with h h'; subst h h'
     rw[z8] at hc;exact⟨by rw[hi.und,hd],hk,hc.1,hc.2,he⟩
   ·cases h
  ·cases h
 ·cases h
/-! ### A new map -/
def qrA(Γ:List TI)(st:St)(N d:Nat)(t:TypeId):Option MR:=
 match mapTy Γ t with
 | some (kj,ej)=>bif Nat.blt d N&&!st.d (fresh st d 8 0) then some ⟨true,[.d (fresh st d 8 0)],[.d (fresh st d 8 0),.a (fresh st d 8 0) (some (.map true (bif keyTy kj.desc kj.τ then t else t+1000000) kj.τ ej.τ [])),.r d (.own (fresh st d 8 0))]⟩ else none
 | none=>none
theorem qvs{d:Nat}{t:TypeId}{r:MR}(h:qrA Γ st N d t=some r):MOk P w0 M N F0 ops st (some d) (.makeMap t none) rty r:=by
 unfold qrA at h;split at h
 ·rename_i kj ej hm;cases hc:(Nat.blt d N&&!st.d (fresh st d 8 0)) with
  | false=>rw[hc] at h; cases h
  | true=>
   rw[hc] at h; injection h with h; subst h
   rw[z8,zX,zq] at hc;intro pos af;refine RT.stepW rfl fun st' hag F ρ a w hr=>?_
   have hd':st'.d (fresh st d 8 0)=false:=by rw[<-hc.2]; exact(hag (.d _) (by simp)).symm
   have hob:ObOk F (w.alloc (.map #[] 0)) (.map true (bif keyTy kj.desc kj.τ then t else t+1000000) kj.τ ej.τ []) (.map (some w.heap.size)):=
    .inr ⟨w.heap.size,#[],0,rfl,(heap_alloc w _).1,stamped_empty 0,[],rfl,⟨.nil,fun _=>⟨rfl,rfl,fun i e h=>by simp at h⟩⟩,fun z hz=>by cases hz⟩
   refine⟨_,_,F,w.alloc (.map #[] 0),.inl ?_,hr.newA hd' hc.1 (qd8 w _) hob (fun g hg=>by injection hg with hg; subst hg; exact z61 _),fun _ h=>h,fun _ h=>.inl h⟩
   have hrun:(Instr.makeMap t none).run P w=.ok (.map (some w.heap.size)) (w.alloc (.map #[] 0)):=rfl;simp only[execOp,zU1,hrun,zl,zo,ze]
 ·cases h
/-! ### An entry is looked up -/
def optS(τ:Ty)(ok:Bool)(z:τ.den)(x:Option τ.den):SV:=bif ok then .tup [.v τ (x.getD z),.b x.isSome] else .v τ (x.getD z)
def qtV(Γ:List TI)(st:St)(t:TypeId)(x ix:Operand)(ok:Bool):Option VR:=
 match mapTy Γ t,st.ev x with
 | some (kj,ej),.own b=>match st.a b,(st.ev ix).dat kj.τ with
  | some (.map nn ty k v l),some y=>if h:k=kj.τ/\v=ej.τ then some ⟨true,qac x++(qac ix++[bif nn&&(bornT ty&&!ok) then .g b else .a b]),optS ej.τ ok ej.τ.dflt (mget (keyO kj.τ) (h.1 ▸ h.2 ▸ l:List (kj.τ.den×ej.τ.den)) y)⟩ else none
  | _,_=>none
 | _,_=>none
theorem qjw{t kt et:TypeId}{z:Value}{i:TypeInfo}(ht:P.underlying t=some (.map kt et))(hi:P.info? et=some i)(hz:i.zero=some z){m:Value}{es:Array MapEntry}{u:Value}(hu:KeyV P w kt u)
  (hm:(m=.map none/\es=#[])\/∃r clock,m=.map (some r)/\w.heap[r]? = some (.map es clock)) {o:Option (Nat×Value)} (hf:(Instr.findKey kt u es.toList).run P w=.ok o w) (ok:Bool):
  (Instr.lookup t m u ok).run P w=.ok (bif ok then .tuple #[(o.map (·.2)).getD z,.bool o.isSome] else(o.map (·.2)).getD z) w:=by
 have hzv:(zeroValue et).run P w=.ok z w:=by simp[zeroValue,typeInfo,hi,hz,Result.andThen]
 rcases hm with⟨rfl,rfl⟩ | ⟨r,clock,rfl,hb⟩
 ·have hf':(Instr.findKey kt u []).run P w=.ok o w:=hf;cases o with
  | none=>cases ok <;> simp[Instr.lookup,zt ht,hu.chk,hf',hzv,Result.andThen]
  | some p=>cases ok <;> simp[Instr.lookup,zt ht,hu.chk,hf',hzv,Result.andThen]
 ·cases o with
  | none=>cases ok <;> simp[Instr.lookup,zt ht,zz2 hb,hu.chk,hf,hzv,Result.andThen]
  | some p=>cases ok <;> simp[Instr.lookup,zt ht,zz2 hb,hu.chk,hf,hzv,Result.andThen]
theorem qtW{τ:Ty}{ok:Bool}{z:τ.den}{x:Option τ.den}{zv:Value}{o:Option (Nat×Value)}(hz:RdV F w τ z zv)(hx:(x=none/\o=none)\/∃y j u,x=some y/\o=some (j,u)/\RdV F w τ y u):
  Den P F w ρ (optS τ ok z x) (bif ok then .tuple #[(o.map (·.2)).getD zv,.bool o.isSome] else(o.map (·.2)).getD zv):=by
 have h1:RdV F w τ (x.getD z) ((o.map (·.2)).getD zv)/\x.isSome=o.isSome:=by
  rcases hx with⟨rfl,rfl⟩ | ⟨y,j,u,rfl,rfl,h⟩
  ·exact⟨hz,rfl⟩
  ·exact⟨h,rfl⟩
 cases ok with
 | false=>exact .v h1.1
 | true=>
  refine .tup (vs:=[_,_]) rfl fun i s u hs hu=>?_
  match i with
  | 0=>simp at hs hu; subst hs hu; exact .v h1.1
  | 1=>simp at hs hu; subst hs hu; rw[h1.2]; exact .v ⟨_,rfl,rfl⟩
  | i+2=>simp at hs
theorem qwz(hΓ:Tys P Γ){t:TypeId}{x ix:Operand}{ok:Bool}{r:VR}(h:qtV Γ st t x ix ok=some r):VOk P w0 M N st (.lookup t x ix ok) rty r:=by
 unfold qtV at h;split at h
 ·rename_i kj ej b hm hx;obtain⟨m1,m2,m3,m4,m5⟩:=qtU hΓ hm;split at h
  ·rename_i nn ty k v l y hA hy;split at h
   ·rename_i hkv;obtain⟨rfl,rfl⟩:=hkv;injection h with h; subst h
    intro st' hag F ρ a w hr dst pos af gd;have hxd:=hr.evx hag (fun _ h=>mem_l h) (x:=x)
    have hyd:=qcR hy (hr.evx hag (fun _ h=>mem_r (mem_l h)) (x:=ix))
    rw[hx] at hxd;generalize he:a.eval x=u at hxd;cases hxd with
    | own hρ=>
     have hl:∃l':List (kj.τ.den×ej.τ.den),st'.a b=some (.map nn ty kj.τ ej.τ l')/\optS ej.τ ok ej.τ.dflt (mget (keyO kj.τ) l y)=optS ej.τ ok ej.τ.dflt (mget (keyO kj.τ) l' y):=by
      cases hc:(nn&&(bornT ty&&!ok)) with
      | false=>
       have hag':=hag (.a b) (by rw[hc]; simp)
       exact⟨l,by rw[<-(hag':st.a b=st'.a b)]; exact hA,rfl⟩
      | true=>
       have hag':=hag (.g b) (by rw[hc]; simp)
       simp only[z8,zq] at hc;obtain⟨rfl,_,rfl⟩:=hc;rcases(show SameG (st.a b) (st'.a b) from hag') with e | ⟨ty',k',v',m,m',g1,g2,g3,g4⟩
       ·exact⟨l,by rw[<-e]; exact hA,rfl⟩
       ·rw[hA] at g1;injection g1 with g1
        injection g1 with _ e1 e2 e3 e4
        subst e1 e2 e3;have e4:=eq_of_heq e4;subst e4;exact⟨m',g2,by show SV.v ej.τ _=SV.v ej.τ _; rw[g4 y]⟩
     obtain⟨l',hA',hopt⟩:=hl;show ∃u',_/\Den P F w ρ (optS ej.τ ok ej.τ.dflt (mget (keyO kj.τ) l y)) u';rw[hopt];obtain⟨u',q1,q2⟩:=hr.mem.arr b _ hA';rw[hρ] at q1; injection q1 with q1; subst q1
     obtain⟨inf,i1,i2,i3,i4⟩:=m5.info;have hu:=qvr hΓ m2 m3 hyd;rcases q2 with⟨_,rfl,rfl⟩ | ⟨r,es,clock,rfl,h2,h3⟩
     ·have hrun:=qjw (w:=w) (o:=none) m1 i1 i4 hu (.inl ⟨rfl,rfl⟩) (qry m2.und _) ok;exact⟨_,by simp only[execOp,he,hrun,zl,zo,ze],qtW (qzJ m4) (.inl ⟨rfl,rfl⟩)⟩
     ·have hf:=qtT hΓ m2 h3.es m3 hyd;rcases hf with⟨f1,_,f2,_⟩ | ⟨j,e,p,f1,_,_,f5,f6,_⟩
      ·have hrun:=qjw (w:=w) m1 i1 i4 hu (.inr ⟨r,clock,rfl,h2⟩) f1 ok;exact⟨_,by simp only[execOp,he,hrun,zl,zo,ze],qtW (qzJ m4) (.inl ⟨f2,rfl⟩)⟩
      ·have hrun:=qjw (w:=w) m1 i1 i4 hu (.inr ⟨r,clock,rfl,h2⟩) f1 ok;exact⟨_,by simp only[execOp,he,hrun,zl,zo,ze],qtW (qzJ m4) (.inr ⟨p,j,e.val,f5,rfl,f6⟩)⟩
   ·cases h
  ·cases h
 ·cases h
/-! ### How many entries there are -/
def qzK(Γ:List TI)(st:St)(t:TypeId)(x:Operand):Option VR:=match t with
 | 0=>none
 | _+1=>none
theorem qzL(hΓ:Tys P Γ){t:TypeId}{x:Operand}{r:VR}(h:qzK Γ st t x=some r):VOk P w0 M N st (.call { callee:=.builtin .len,args:=#[x],argTypes:=#[t] }) rty r:=by
 unfold qzK at h;split at h <;> cases h
/-! ### An entry is written; one is deleted -/
theorem Rel'.mapSet{b r clock clock':Nat}{ty:TypeId}{k v:Ty}{l l':List (k.den×v.den)}{es es':Array MapEntry}{nn:Bool}(h:Rel' P w0 M N F ρ st a w)(hA:st.a b=some (.map nn ty k v l))(hρ:ρ b=some (.map (some r)))
  (hb:w.heap[r]? = some (.map es clock)) (hes:MapEb ty F w k v l' es' clock'):Rel' P w0 M N F ρ (st.put (.a b (some (.map nn ty k v l')))) a { w with heap:=w.heap.setIfInBounds r (.map es' clock') }:=by
 have hp0:st.present b:=.inr (by rw[hA]; simp)
 have hd0:=h.dropA b;have hlt:r<w.heap.size:=(zT.1 hb).1;have hv0:st.v b=none:=by
  cases hx:st.v b with
  | none=>rfl
  | some x=>
   exfalso;obtain⟨g,arr,h1,_⟩:=h.mem.var b x.1 x.2 hx;rw[hρ] at h1; injection h1 with h1; cases h1
 have hfr:Fr w (fun g=>g=r) { w with heap:=w.heap.setIfInBounds r (.map es' clock') }:=
  ⟨rfl,rfl,rfl,by simp,fun g _ hg=>(heap_set hb).2 g hg⟩
 have hpr:∀b',(st.put (.a b none)).present b'->b'≠b/\st.present b':=by
  intro b' hp;by_cases e:b'=b
  ·subst e;exfalso;rcases hp with hp | hp
   ·exact hp hv0
   ·refine hp ?_
    show(bif Nat.beq b' b' then none else st.a b')=none;simp
  ·refine⟨e,?_⟩
   rcases hp with hp | hp
   ·exact .inl hp
   ·refine .inr ?_
    have hp':(bif Nat.beq b' b then none else st.a b')≠none:=hp;rw[bq e] at hp'; exact hp'
 have hdis:∀b' v g,(st.put (.a b none)).present b'->ρ b'=some v->blkOf v=some g->¬g=r:=by
  intro b' v g hp hv hg hgr;subst hgr;obtain⟨hne,hp'⟩:=hpr b' hp;exact hne (h.mem.sep b' b v _ g hp' hp0 hv hρ hg rfl)
 have hnF:∀g,F g->¬g=r:=fun g hF hg=>by subst hg; exact h.mem.own b _ g hp0 hρ rfl hF
 have h1:=hd0.move (F':=F) hfr hdis hnF (fun _ h=>h) (fun _ h=>.inl h) (fun g hg=>zq1 (h.mem.fb g hg) hfr.size) (fun g hg hlt'=>(h.lo b _ g hp0 hρ (by subst hg; rfl)).resolve_right (by omega))
 have hob:ObOk F { w with heap:=w.heap.setIfInBounds r (.map es' clock') } (.map nn ty k v l') (.map (some r)):=by
  obtain⟨Z,z1,z2,z3⟩:=hes.ent;refine .inr ⟨r,es',clock',rfl,(heap_set hb).1,hes.st,Z,z1,z2,fun z hz=>?_⟩
  have hc:∀g,F g->(w.heap.setIfInBounds r (.map es' clock'))[g]? = w.heap[g]?:=fun g hF=>(heap_set hb).2 _ (hnF _ hF)
  obtain⟨⟨c1,p1,p2⟩,⟨c2,s1,s2⟩⟩:=z3 z hz;exact⟨⟨c1,p1.mono (fun _ h=>h) hc,p2⟩,⟨c2,s1.mono (fun _ h=>h) hc,s2⟩⟩
 have h2:=h1.addA (b:=b) (A:=.map nn ty k v l') hρ hv0 hob (fun g hg=>⟨fun b' v hne hp hv' hbk=>by
   obtain⟨_,hp'⟩:=hpr b' hp;exact hne (h.mem.sep b' b v _ g hp' hp0 hv' hρ hbk hg),fun hF=>h.mem.own b _ g hp0 hρ hg hF,h.lo b _ g hp0 hρ hg⟩)
 have e:(st.put (.a b none)).put (.a b (some (.map nn ty k v l')))=st.put (.a b (some (.map nn ty k v l'))):=by
  show({ st with a:=_ }:St)={ st with a:=_ }
  congr 1;funext x;show(bif Nat.beq x b then _ else bif Nat.beq x b then none else st.a x)=bif Nat.beq x b then _ else st.a x;cases Nat.beq x b <;> rfl
 rwa[e] at h2
def qmF(Γ:List TI)(st:St)(t:TypeId)(x ix y:Operand):Option MR:=
 match mapTy Γ t,st.ev x with
 | some (kj,ej),.own b=>match st.a b,(st.ev ix).dat kj.τ,(st.ev y).dat ej.τ with
  | some (.map true ty k v l),some key,some val=>if h:k=kj.τ/\v=ej.τ then bif bornT ty then none else some ⟨true,qac x++(qac ix++(qac y++[.a b])),[.a b (some (.map true ty kj.τ ej.τ (mput (keyO kj.τ) (h.1 ▸ h.2 ▸ l:List (kj.τ.den×ej.τ.den)) key val)))]⟩ else none
  | _,_,_=>none
 | _,_=>none
theorem qj9{t kt et:TypeId}(ht:P.underlying t=some (.map kt et)){r:Nat}{es:Array MapEntry}{clock:Nat}(hb:w.heap[r]? = some (.map es clock)){u z:Value}(hu:KeyV P w kt u):
  ((Instr.findKey kt u es.toList).run P w=.ok none w->(Instr.mapUpdate t (.map (some r)) u z).run P w=.ok () { w with heap:=w.heap.setIfInBounds r (.map (es.push { key:=u,val:=z,born:=clock }) (clock+1)) })∧
  ∀j e,(Instr.findKey kt u es.toList).run P w=.ok (some (j,e.val)) w->es[j]? = some e->e.key=u->(Instr.mapUpdate t (.map (some r)) u z).run P w=.ok () { w with heap:=w.heap.setIfInBounds r (.map (es.modify j fun e=>{ e with key:=u,val:=z }) clock) }:=by
 constructor
 ·intro h1;simp[Instr.mapUpdate,zt ht,zz2 hb,hu.chk,h1,run_setObj_map _ hb,Result.andThen]
 ·intro j e h1 hj h3;simp[Instr.mapUpdate,zt ht,zz2 hb,hu.chk,h1,hj,h3,hu.stay,run_setObj_map _ hb,Result.andThen]
theorem qwA(hΓ:Tys P Γ){t:TypeId}{x ix y:Operand}{r:MR}(h:qmF Γ st t x ix y=some r):MOk P w0 M N F0 ops st none (.mapUpdate t x ix y) rty r:=by
 unfold qmF at h;split at h
 ·rename_i kj ej b hm hx;obtain⟨m1,m2,m3,m4,m5⟩:=qtU hΓ hm;split at h
  ·rename_i ty k v l key val hA hk hv;split at h
   ·rename_i hkv;obtain⟨rfl,rfl⟩:=hkv;cases hbt:bornT ty with
    | true=>rw[hbt] at h; cases h
    | false=>
    rw[hbt] at h;injection h with h; subst h
    intro pos af;refine RT.stepW rfl fun st' hag F ρ a w hr=>?_
    have hxd:=hr.evx hag (fun _ h=>mem_l h) (x:=x)
    have hkd:=qcR hk (hr.evx hag (fun _ h=>mem_r (mem_l h)) (x:=ix))
    have hvd:=qcR hv (hr.evx hag (fun _ h=>mem_r (mem_r (mem_l h))) (x:=y))
    have hA':st'.a b=some (.map true ty kj.τ ej.τ l):=by rw[<-(hag (.a b) (by simp):st.a b=st'.a b)]; exact hA
    rw[hx] at hxd;generalize he:a.eval x=u at hxd;cases hxd with
    | own hρ=>
     obtain⟨u',q1,q2⟩:=hr.mem.arr b _ hA';rw[hρ] at q1; injection q1 with q1; subst q1
     rcases q2 with⟨q2,_⟩ | ⟨r,es,clock,rfl,h2,h3⟩
     ·cases q2
     have hu:=qvr hΓ m2 m3 hkd;obtain⟨r1,r2⟩:=qj9 (P:=P) (w:=w) (z:=a.eval y) m1 h2 hu;have hf:=qtT hΓ m2 h3.es m3 hkd;rcases hf with⟨f1,f0,_,f2⟩ | ⟨j,e,p,f1,f2,f3,_,_,f6⟩
     ·have hm0:=h3.es;rw[<-f2] at hm0;have hR:=hr.mapSet hA' hρ h2 (MapEs.eb hbt (hm0.more (e:={ key:=a.eval ix,val:=a.eval y,born:=clock }) (stamped_push h3.st f0) (by rw[Array.toList_push]; exact zI2 _ _) hkd hvd (keyO kj.τ)))
      refine⟨undef,ρ,F,_,.inr ⟨?_,rfl⟩,hR,fun _ h=>h,fun _ h=>.inl h⟩
      simp only[execOp,he,r1 f1,zl,zo,ze]
     ·have hR:=hr.mapSet hA' hρ h2 (MapEs.eb hbt (f6.more (e:={ e with key:=a.eval ix,val:=a.eval y }) (stamped_modify h3.st j (fun e=>{ e with key:=a.eval ix,val:=a.eval y }) (fun _ _=>rfl) (fun e' _ he'=>by rw[f2] at he'; injection he' with he'; subst he'; exact f3.symm)) (qrz _ f2) hkd hvd (keyO kj.τ)))
      refine⟨undef,ρ,F,_,.inr ⟨?_,rfl⟩,hR,fun _ h=>h,fun _ h=>.inl h⟩
      simp only[execOp,he,r2 j e f1 f2 f3,zl,zo,ze]
   ·cases h
  ·cases h
 ·cases h
theorem qwB(hΓ:Tys P Γ){t:TypeId}{x ix y:Operand}{r:MR}(h:qmF Γ st t x ix y=some r):MOk P w0 M N F0 ops st none (.insert t x ix y) rty r:=by
 unfold qmF at h;split at h
 ·rename_i kj ej b hm hx;obtain⟨m1,m2,m3,m4,m5⟩:=qtU hΓ hm;split at h
  ·rename_i ty k v l key val hA hk hv;split at h
   ·rename_i hkv;obtain⟨rfl,rfl⟩:=hkv;cases hbt:bornT ty with
    | true=>rw[hbt] at h; cases h
    | false=>
    rw[hbt] at h;injection h with h; subst h
    intro pos af;refine RT.stepW rfl fun st' hag F ρ a w hr=>?_
    have hxd:=hr.evx hag (fun _ h=>mem_l h) (x:=x)
    have hkd:=qcR hk (hr.evx hag (fun _ h=>mem_r (mem_l h)) (x:=ix))
    have hvd:=qcR hv (hr.evx hag (fun _ h=>mem_r (mem_r (mem_l h))) (x:=y))
    have hA':st'.a b=some (.map true ty kj.τ ej.τ l):=by rw[<-(hag (.a b) (by simp):st.a b=st'.a b)]; exact hA
    rw[hx] at hxd;generalize he:a.eval x=u at hxd;cases hxd with
    | own hρ=>
     obtain⟨u',q1,q2⟩:=hr.mem.arr b _ hA';rw[hρ] at q1; injection q1 with q1; subst q1
     rcases q2 with⟨q2,_⟩ | ⟨r,es,clock,rfl,h2,h3⟩
     ·cases q2
     have hu:=qvr hΓ m2 m3 hkd;obtain⟨r1,r2⟩:=qj9 (P:=P) (w:=w) (z:=a.eval y) m1 h2 hu;have hf:=qtT hΓ m2 h3.es m3 hkd;rcases hf with⟨f1,f0,_,f2⟩ | ⟨j,e,p,f1,f2,f3,_,_,f6⟩
     ·have hm0:=h3.es;rw[<-f2] at hm0;have hR:=hr.mapSet hA' hρ h2 (MapEs.eb hbt (hm0.more (e:={ key:=a.eval ix,val:=a.eval y,born:=clock }) (stamped_push h3.st f0) (by rw[Array.toList_push]; exact zI2 _ _) hkd hvd (keyO kj.τ)))
      refine⟨undef,ρ,F,_,.inr ⟨?_,rfl⟩,hR,fun _ h=>h,fun _ h=>.inl h⟩
      simp only[execOp,he,r1 f1,zl,zo,ze]
     ·have hR:=hr.mapSet hA' hρ h2 (MapEs.eb hbt (f6.more (e:={ e with key:=a.eval ix,val:=a.eval y }) (stamped_modify h3.st j (fun e=>{ e with key:=a.eval ix,val:=a.eval y }) (fun _ _=>rfl) (fun e' _ he'=>by rw[f2] at he'; injection he' with he'; subst he'; exact f3.symm)) (qrz _ f2) hkd hvd (keyO kj.τ)))
      refine⟨undef,ρ,F,_,.inr ⟨?_,rfl⟩,hR,fun _ h=>h,fun _ h=>.inl h⟩
      simp only[execOp,he,r2 j e f1 f2 f3,zl,zo,ze]
   ·cases h
  ·cases h
 ·cases h
def qtX(Γ:List TI)(st:St)(t:TypeId)(x ix:Operand):Option MR:=match t with
 | 0=>none
 | _+1=>none
theorem qwC(hΓ:Tys P Γ){t t2:TypeId}{dst:Option Nat}{x ix:Operand}{r:MR}(h:qtX Γ st t x ix=some r)(hdst:∀d,dst=some d->False):MOk P w0 M N F0 ops st dst (.call { callee:=.builtin .delete,args:=#[x,ix],argTypes:=#[t,t2] }) rty r:=by
 unfold qtX at h;split at h <;> cases h
/-! ### The entry of a key; a value is put into it -/
def qtY(Γ:List TI)(st:St)(N d:Nat)(t:TypeId)(x ix:Operand):Option MR:=match d with
 | 0=>none
 | _+1=>none
theorem qwD(hΓ:Tys P Γ){d:Nat}{t:TypeId}{x ix:Operand}{r:MR}(h:qtY Γ st N d t x ix=some r):MOk P w0 M N F0 ops st (some d) (.mapEntry t x ix) rty r:=by
 unfold qtY at h;split at h <;> cases h
def qwE(st:St)(x s y:Operand):Option MR:=match x with
 | .tmp _=>none
 | _=>none
theorem qyw{t:TypeId}{x s y:Operand}{r:MR}(h:qwE st x s y=some r)(hg:r.g=true):MOk P w0 M N F0 ops st none (.entryStore t x s y) rty r:=by
 unfold qwE at h;split at h <;> cases h
def qzM(Γ:List TI)(st:St):Op->Option VR
 | .lookup t x ix ok=>qtV Γ st t x ix ok
 | .call ⟨.builtin .len,⟨[x]⟩,⟨[t]⟩⟩=>qzK Γ st t x
 | _=>none
theorem qzN(hΓ:Tys P Γ){op:Op}{r:VR}(h:qzM Γ st op=some r):VOk P w0 M N st op rty r:=by
 unfold qzM at h;split at h
 ·exact qwz hΓ h
 ·exact qzL hΓ h
 ·cases h
def qzO(Γ:List TI)(st:St)(N:Nat)(dst:Option Nat):Op->Option MR
 | .makeMap t none=>match dst with
  | some d=>qrA Γ st N d t
  | none=>none
 | .mapUpdate t x ix y=>match dst with
  | none=>qmF Γ st t x ix y
  | some _=>none
 | .insert t x ix y=>match dst with
  | none=>qmF Γ st t x ix y
  | some _=>none
 | .call ⟨.builtin .delete,⟨[x,ix]⟩,⟨[t,t2]⟩⟩=>match dst with
  | none=>qtX Γ st t x ix
  | some _=>none
 | .mapEntry t x ix=>match dst with
  | some d=>qtY Γ st N d t x ix
  | none=>none
 | .entryStore _ x s y=>match dst with
  | none=>qwE st x s y
  | some _=>none
 | _=>none
theorem qzP(hΓ:Tys P Γ){dst:Option Nat}{op:Op}{r:MR}(h:qzO Γ st N dst op=some r)(hg:r.g=true):MOk P w0 M N F0 ops st dst op rty r:=by
 unfold qzO at h;split at h
 all_goals first | (cases h; done) | (split at h <;> first | (cases h; done) | skip)
 ·exact qvs h
 ·exact qwA hΓ h
 ·exact qwB hΓ h
 ·exact qwC hΓ h (fun d e=>by cases e)
 ·exact qwD hΓ h
 ·exact qyw h hg
end
end Go.Sq
