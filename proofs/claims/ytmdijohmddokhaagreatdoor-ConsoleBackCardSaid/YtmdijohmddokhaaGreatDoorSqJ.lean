/- The second engine, part J: comparing structs; all operations that make a value. No condition. -/
import Derived.Test.YtmdijohmddokhaaGreatDoorSqI
import Derived.ChangeKeysEq
namespace Go.Sq
open Go Go.RowKit
def eqA{δ:Type}(f:δ->δ->Bool)(d:δ)(n:Nat)(x y:List δ):Bool:=(List.range n).all fun i=>f (x.getD i d) (y.getD i d)
def eqb:(τ:Ty)->τ.den->τ.den->Bool
 | .unit,_,_=>true
 | .int _,x,y=>(fun(x y:Int)=>decide (x=y)) x y
 | .bool,x,y=>(fun(x y:Bool)=>x==y) x y
 | .str,x,y=>(fun(x y:List UInt8)=>decide (x=y)) x y
 | .pair a b,x,y=>eqb a x.1 y.1&&eqb b x.2 y.2
 | .sl _,_,_=>false
 | .err,_,_=>false
 | .map _ _,_,_=>false
 | .fnc _,_,_=>false
 | .fnl _,_,_=>false
 | .clo _ _,_,_=>false
 | .arr n e,x,y=>eqA (eqb e) e.dflt n x y
def eqFs(eq:TypeId->Ty->Bool):List Field->Nat->Ty->Bool
 | [],_,.unit=>true
 | [],_,_=>false
 | f::r,o,τ=>!(f.name == "_")&&Nat.beq f.offset o&&((match r with
   | []=>eq f.type τ
   | _::_=>false) || (match τ with
   | .pair a b=>eq f.type a&&eqFs eq r (o+a.size) b
   | _=>false))
def eqT(Γ:List TI):Nat->TypeId->Ty->Bool
 | 0,_,_=>false
 | n+1,t,τ=>match look Γ t with
  | none=>false
  | some i=>Nat.beq i.size τ.size&&match i.desc with
   | .bool=>decide (τ=.bool)
   | .int k=>decide (τ=.int k)
   | .string=>decide (τ=.str)
   | .struct fs=>i.eq&&τ.agg&&eqFs (eqT Γ n) fs.toList 0 τ
   | .array m et=>match τ with
    | .arr q e=>Nat.beq m q&&eqT Γ n et e
    | _=>false
   | _=>false
section
variable {P:Program} {F:Nat->Prop} {w:World} {Γ:List TI}
theorem qzs(dp:Nat)(xs ys:Array Value):(Op.eqFields dp xs ys []).run P w=.ok true w:=by simp[Op.eqFields]
theorem qxg{dp:Nat}{xs ys:Array Value}{f:Field}{fs:List Field}{u v:Value}{r r':Bool}(hn:(f.name == "_")=false)(hu:(part f.type xs f.offset).run P w=.ok u w)(hv:(part f.type ys f.offset).run P w=.ok v w)
  (hr:(Op.equalIn dp f.type u v).run P w=.ok r w) (ih:(Op.eqFields dp xs ys fs).run P w=.ok r' w):(Op.eqFields dp xs ys (f::fs)).run P w=.ok (r&&r') w:=by
 have hn':f.name ≠ "_" :=by simpa using hn
 simp only[Op.eqFields,if_pos hn',zl,hu,hv,hr,ze,Sem.run_ite];cases r
 ·simp
 ·simp[ih]
theorem qzt{n:Nat}{t:TypeId}{τ:Ty}(h:eqT Γ n t τ=true):∃i,look Γ t=some i/\i.size=τ.size/\qbJ i.desc=τ.agg:=by
 cases n with
 | zero=>cases h
 | succ n=>
  simp only[eqT] at h;split at h
  ·cases h
  ·rename_i i hl;rw[z8] at h;refine⟨i,hl,zc h.1,?_⟩
   have h2:=h.2;split at h2
   ·rename_i hd; rw[hd,zi h2]; rfl
   ·rename_i hd; rw[hd,zi h2]; rfl
   ·rename_i hd; rw[hd,zi h2]; rfl
   ·rename_i hd; rw[hd]; rw[z8,z8] at h2; rw[h2.1.2]; rfl
   ·rename_i hd;split at h2
    ·rw[hd]; rfl
    ·cases h2
   ·cases h2
theorem qh1{n:Nat}{t:TypeId}{τ:Ty}(hΓ:Tys P Γ)(h:eqT Γ n t τ=true){x:τ.den}{cs cs1 cs2:List Value}(hx:RdC F w τ x cs):(part t (cs1++(cs++cs2)).toArray cs1.length).run P w=.ok (mkV τ cs) w:=by
 obtain⟨i,hl,hs,ha⟩:=qzt h;obtain⟨hi,rfl⟩:=qau hΓ hl;have hlen:=hx.size;refine qoy hi _ ?_
 rw[ha];unfold mkV;cases hg:τ.agg with
 | true=>
  simp only[za]; congr 1; apply Array.ext';simp[hs,<-hlen]
 | false=>
  have h1:τ.size=1:=by revert hg; cases τ <;> intro hg <;> first | rfl | cases hg
  rw[h1] at hlen;obtain⟨c,rfl⟩:=zo1.1 hlen;simp
theorem qvg(hΓ:Tys P Γ){n d:Nat}(ih:∀ {t:TypeId} {τ:Ty} {x y:τ.den} {u v:Value},eqT Γ n t τ=true->RdV F w τ x u->RdV F w τ y v->(Op.equalIn d t u v).run P w=.ok (eqb τ x y) w):
  ∀ {fs:List Field} {o:Nat} {τ:Ty},eqFs (eqT Γ n) fs o τ=true->∀ {x y:τ.den} {cs ds cs1 ds1:List Value},RdC F w τ x cs->RdC F w τ y ds->cs1.length=o->ds1.length=o->
   (Op.eqFields d (cs1++cs).toArray (ds1++ds).toArray fs).run P w=.ok (eqb τ x y) w
 | [],o,τ,h,x,y,cs,ds,cs1,ds1,hx,hy,hc,hd=>by
  cases τ <;> simp only[eqFs] at h <;> first | (cases h; done) | exact qzs _ _ _
 | f::r,o,τ,h,x,y,cs,ds,cs1,ds1,hx,hy,hc,hdo=>by
  simp only[eqFs,z8,zd1,zq] at h;obtain⟨⟨h1,h2⟩,h3⟩:=h;have ho:=zc h2;rcases h3 with h3 | h3
  ·split at h3
   ·have hp:=qh1 (cs1:=cs1) (cs2:=[]) hΓ h3 hx;have hq:=qh1 (cs1:=ds1) (cs2:=[]) hΓ h3 hy;rw[zM] at hp hq;rw[hc,<-ho] at hp;rw[hdo,<-ho] at hq;have:=qxg h1 hp hq (ih h3 ⟨cs,hx,rfl⟩ ⟨ds,hy,rfl⟩) (qzs _ _ _);rwa[zv2] at this
   ·cases h3
  ·split at h3
   ·rename_i a b;rw[z8] at h3;obtain⟨c1,c2,rfl,hx1,hx2⟩:=hx;obtain⟨d1,d2,rfl,hy1,hy2⟩:=hy;have hp:=qh1 (cs1:=cs1) (cs2:=c2) hΓ h3.1 hx1;have hq:=qh1 (cs1:=ds1) (cs2:=d2) hΓ h3.1 hy1;rw[hc,<-ho] at hp;rw[hdo,<-ho] at hq;have e1:=hx1.size;have e2:=hy1.size;refine qxg h1 hp hq (ih h3.1 ⟨c1,hx1,rfl⟩ ⟨d1,hy1,rfl⟩) ?_
    have:=qvg hΓ ih h3.2 (cs1:=cs1++c1) (ds1:=ds1++d1) hx2 hy2 (by simp; omega) (by simp; omega)
    rwa[zu,zu] at this
   ·cases h3
theorem qxh(hΓ:Tys P Γ){n d:Nat}(ih:∀ {t:TypeId} {τ:Ty} {x y:τ.den} {u v:Value},eqT Γ n t τ=true->RdV F w τ x u->RdV F w τ y v->(Op.equalIn d t u v).run P w=.ok (eqb τ x y) w)
  {et:TypeId} {e:Ty} {m:Nat} (h:eqT Γ n et e=true) (hk:P.cellsOf et=e.size) {x y:List e.den} {cs ds:List Value} (hx:RdAr e.den (RdC F w e) m x cs) (hy:RdAr e.den (RdC F w e) m y ds):
  ∀is:List Nat,(∀i∈is,i<m)->(Op.eqItems d et (P.cellsOf et) cs.toArray ds.toArray is).run P w=.ok (is.all fun i=>eqb e (x.getD i e.dflt) (y.getD i e.dflt)) w
 | [],_=>by simp[Op.eqItems]
 | i::is,hi=>by
  have him:=hi i (by simp)
  have cut:∀ {z:List e.den} {es:List Value},RdAr e.den (RdC F w e) m z es->RdC F w e (z.getD i e.dflt) ((es.drop (i*e.size)).take e.size)/\(part et es.toArray (i*e.size)).run P w=.ok (mkV e ((es.drop (i*e.size)).take e.size)) w:=by
   intro z es hz;obtain⟨g1,_⟩:=RdAr.get (fun _ _ h=>RdC.size h) e.dflt hz him
   have hes:=(RdAr.size (fun _ _ h=>RdC.size h) hz).1
   have hfit:i*e.size+e.size<=es.length:=by
    rw[hes,<-zY1]; exact zA _ him
   have e1:es=es.take (i*e.size)++((es.drop (i*e.size)).take e.size++(es.drop (i*e.size)).drop e.size):=by rw[zD1,zD1]
   have hp:=qh1 (cs1:=es.take (i*e.size)) (cs2:=(es.drop (i*e.size)).drop e.size) hΓ h g1;rw[<-e1,zn,z91 (by omega)] at hp
   exact⟨g1,hp⟩
  obtain⟨a1,a2⟩:=cut hx;obtain⟨b1,b2⟩:=cut hy;have hr:=ih h (⟨_,a1,rfl⟩:RdV F w e _ _) (⟨_,b1,rfl⟩:RdV F w e _ _);have hrest:=qxh hΓ ih h hk hx hy is (fun j hj=>hi j (by simp[hj]))
  rw[hk] at hrest ⊢;simp only[Op.eqItems,zl,a2,b2,hr,ze,z11];cases eqb e (x.getD i e.dflt) (y.getD i e.dflt)
  ·simp
  ·simp[hrest]
theorem qzu{d:Nat}{t:TypeId}(hu:P.underlying t=some .string)(x y:List UInt8):(Op.equalIn (d+1) t (.string ⟨⟨x⟩⟩) (.string ⟨⟨y⟩⟩)).run P w=.ok (decide (x=y)) w:=by
 have:=run_equalIn_string (P:=P) w d t ⟨⟨x⟩⟩ ⟨⟨y⟩⟩ hu;rw[qrd,qrd] at this;rw[this]; congr 1;rw[zU]; simp
theorem qq0(hΓ:Tys P Γ):∀ {n d:Nat},n<=d->∀ {t:TypeId} {τ:Ty} {x y:τ.den} {u v:Value},eqT Γ n t τ=true->RdV F w τ x u->RdV F w τ y v->(Op.equalIn d t u v).run P w=.ok (eqb τ x y) w
 | 0,_,_,_,_,_,_,_,_,h,_,_=>by cases h
 | n+1,0,hd,_,_,_,_,_,_,_,_,_=>by omega
 | n+1,d+1,hd,t,τ,x,y,u,v,h,hx,hy=>by
  have h0:=h;simp only[eqT] at h;split at h
  ·cases h
  ·rename_i i hl;obtain⟨hi,rfl⟩:=qau hΓ hl;have hu:=hi.und;rw[z8] at h;obtain⟨_,h⟩:=h;obtain⟨cs,hx1,rfl⟩:=hx;obtain⟨ds,hy1,rfl⟩:=hy;split at h <;> rename_i hdsc
   ·obtain rfl:=zi h;rw[hdsc] at hu; cases hx1; cases hy1;exact run_equalIn_bool' w d _ _ _ hu
   ·obtain rfl:=zi h;rw[hdsc] at hu; cases hx1; cases hy1;exact run_equalIn_int w d _ _ _ _ _ hu
   ·obtain rfl:=zi h;rw[hdsc] at hu; cases hx1; cases hy1;exact qzu hu x y
   ·rename_i fs;rw[z8,z8] at h;obtain⟨⟨h1,h2⟩,h3⟩:=h;rw[hdsc] at hu;have hf:P.fieldsOf i.t=fs:=by simp[Program.fieldsOf,hu]
    unfold mkV;rw[h2];simp only[za];have hru:=run_equalIn_agg (P:=P) (w:=w) d i.t cs.toArray ds.toArray (by rw[hf]; exact hu) (hi.eqs h1).2
    rw[hf] at hru;rw[hru];have:=qvg (Γ:=Γ) (n:=n) (d:=d) hΓ (fun h' hx' hy'=>qq0 hΓ (by omega) h' hx' hy') h3 (cs1:=[]) (ds1:=[]) hx1 hy1 rfl rfl
    simpa using this
   ·rename_i m et;split at h
    ·rename_i q e _;rw[z8] at h;have hm:=zc h.1;subst hm;rw[hdsc] at hu;obtain⟨j,hlj,hsj,_⟩:=qzt h.2;obtain⟨hj,hje⟩:=qau hΓ hlj;obtain⟨ii,hii,hsz⟩:∃ii,P.info? et=some ii/\ii.size=e.size:=by
      have:=hj.inf;rw[hje] at this;cases hI:P.info? et with
      | none=>rw[hI] at this; cases this
      | some ii=>
       rw[hI] at this;simp only[zf1,zn1,Prod.mk.injEq] at this;exact⟨ii,rfl,by rw[this.1,hsj]⟩
     have hk:P.cellsOf et=e.size:=by unfold Program.cellsOf; rw[hii]; exact hsz
     have hrn:=run_equalIn_array (P:=P) (w:=w) d cs.toArray ds.toArray hu hii;show(Op.equalIn (d+1) i.t (.agg cs.toArray) (.agg ds.toArray)).run P w=_;rw[hrn];exact qxh (Γ:=Γ) (n:=n) (d:=d) hΓ (fun h' hx' hy'=>qq0 hΓ (by omega) h' hx' hy') h.2 hk hx1 hy1 (List.range m) (fun i hi=>zK.1 hi)
    ·cases h
   ·cases h
end
section
variable {P:Program} {w0:World} {M:Mod} {N:Nat} {st:St} {Γ:List TI} {rty:TypeId}
def evEqS(Γ:List TI)(st:St)(op:BinOp)(t:TypeId)(x y:Operand):Option VR:=
 match look Γ t with
 | none=>none
 | some i=>bif i.eq&&i.τ.agg&&eqT Γ 20 t i.τ then match(st.ev x).dat i.τ,(st.ev y).dat i.τ with
   | some a,some b=>match op with
    | .eql=>some ⟨true,qac x++qac y,.v .bool (eqb i.τ a b)⟩
    | .neq=>some ⟨true,qac x++qac y,.v .bool (!eqb i.τ a b)⟩
    | _=>none
   | _,_=>none
  else none
theorem qBA(hΓ:Tys P Γ){op:BinOp}{t t2:TypeId}{x y:Operand}{r:VR}(h:evEqS Γ st op t x y=some r):VOk P w0 M N st (.binOp op t x y t2) rty r:=by
 unfold evEqS at h;split at h
 ·cases h
 ·rename_i i hl;have hl':=hl;obtain⟨hi,rfl⟩:=qau hΓ hl;cases hc:(i.eq&&i.τ.agg&&eqT Γ 20 i.t i.τ) with
  | false=>rw[hc] at h; cases h
  | true=>
   rw[hc] at h; simp only[za] at h;rw[z8,z8] at hc;obtain⟨⟨c1,c2⟩,c3⟩:=hc;split at h
   ·rename_i p q hp hq;have key:∀(st':St),(∀κ∈qac x++qac y,agree st st' κ)->∀F ρ a w,Rel' P w0 M N F ρ st' a w->∃cs ds,a.eval x=.agg cs/\a.eval y=.agg ds/\(Op.equalIn 10000 i.t (.agg cs) (.agg ds)).run P w=.ok (eqb i.τ p q) w:=by
     intro st' hag F ρ a w hr;have hx:=qcR hp (hr.evx hag (fun _ h=>mem_l h))
     have hy:=qcR hq (hr.evx hag (fun _ h=>mem_r h))
     have he:=qq0 (w:=w) (F:=F) hΓ (show 20<=10000 by omega) c3 hx hy
     obtain⟨cs,_,e1⟩:=hx;obtain⟨ds,_,e2⟩:=hy;rw[e1,e2] at he;rw[e1,e2];unfold mkV at he ⊢;rw[c2] at he ⊢;exact⟨_,_,rfl,rfl,he⟩
    split at h
    ·injection h with h; subst h
     intro st' hag F ρ a w hr dst pos af gd;obtain⟨cs,ds,e1,e2,e3⟩:=key st' hag F ρ a w hr;exact⟨_,by simp only[execOp,e1,e2,zl,run_eqGuard_agg w .eql i.t x y cs ds (hi.eqs c1).1,ze,run_eql_struct,e3,zo],.ofBool _⟩
    ·injection h with h; subst h
     intro st' hag F ρ a w hr dst pos af gd;obtain⟨cs,ds,e1,e2,e3⟩:=key st' hag F ρ a w hr;exact⟨_,by simp only[execOp,e1,e2,zl,run_eqGuard_agg w .neq i.t x y cs ds (hi.eqs c1).1,ze,run_neq_struct,e3,zo],.ofBool _⟩
    ·cases h
   ·cases h
def evVal(Γ:List TI)(st:St):Op->Option VR
 | .move x=>qxe st x
 | .assign x=>qxe st x
 | .binOp op t x y _=>match evBin Γ st op t x y with
  | some r=>some r
  | none=>evEqS Γ st op t x y
 | .unOp op _ x=>evUn st op x
 | .convert s d x=>qzi Γ st s d x
 | .pick c x y=>qzk st c x y
 | .load t x=>qtg Γ st t x
 | .nilCheck x=>evNil st x
 | .fieldAddr t x n=>qtJ Γ st t x n
 | .indexAddr t x ix=>qqZ Γ st t x ix
 | .index t x ix=>qtM Γ st t x ix
 | .extract x n=>qrj st x n
 | .field t x n=>qwk Γ st t x n
 | .slice t x lo hi none=>qwo Γ st t x lo hi
 | .build t ⟨parts⟩=>qwp Γ st t parts
 | .makeFunc fn ⟨first⟩ ⟨captured⟩=>qzq st fn first captured
 | .call ⟨.builtin .len,⟨[x]⟩,⟨[t]⟩⟩=>evLen Γ st t x
 | .call ⟨.builtin .max,⟨[x,y]⟩,⟨[_,_]⟩⟩=>evMM st true x y
 | .call ⟨.builtin .min,⟨[x,y]⟩,⟨[_,_]⟩⟩=>evMM st false x y
 | _=>none
theorem qxi(hΓ:Tys P Γ){op:Op}{r:VR}(h:evVal Γ st op=some r)(hg:r.g=true):VOk P w0 M N st op rty r:=by
 unfold evVal at h;split at h
 ·exact(qva h).1
 ·exact(qva h).2
 ·split at h
  ·rename_i hb;injection h with h; subst h
   exact qBw hΓ hb hg
  ·exact qBA hΓ h
 ·exact qDs h
 ·exact qzj hΓ h
 ·exact qzl h hg
 ·exact qvb hΓ h
 ·exact qBy h
 ·exact qwi hΓ h
 ·exact qri hΓ h hg
 ·exact qwn hΓ h hg
 ·exact qvc h
 ·exact qyo hΓ h
 ·exact qyq hΓ h hg
 ·exact qyr hΓ h
 ·exact qzr h
 ·exact qBz hΓ h
 ·exact qzo.1 h
 ·exact qzo.2 h
 ·cases h
end
end Go.Sq
