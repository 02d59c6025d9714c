/- The second engine, part I: literals of structs and of slices; function values; comparing structs. No condition. -/
import Derived.Test.YtmdijohmddokhaaGreatDoorSqH
namespace Go.Sq
open Go Go.RowKit
theorem qlx(off:Nat):∀(vs:List Value) (k:Nat) (cs:Array Value),(List.foldl (fun cs (p:Value×Nat)=>cs.setIfInBounds (off+p.2) p.1) cs (vs.zipIdx k)).toList=(List.foldl (fun l (p:Value×Nat)=>l.set (off+p.2) p.1) cs.toList (vs.zipIdx k))
 | [],_,_=>rfl
 | v::vs,k,cs=>by
  simp only[List.zipIdx_cons,List.foldl_cons];rw[qlx off vs (k+1)];simp
theorem qrl(off:Nat):∀(vs:List Value) (k:Nat) (l:List Value) (i:Nat),off+k+vs.length<=l.length->
  (List.foldl (fun l (p:Value×Nat)=>l.set (off+p.2) p.1) l (vs.zipIdx k)).length=l.length∧
  (List.foldl (fun l (p:Value×Nat)=>l.set (off+p.2) p.1) l (vs.zipIdx k))[i]? = if off+k<=i/\i<off+k+vs.length then vs[i-(off+k)]? else l[i]?
 | [],k,l,i,_=>by
  refine⟨rfl,?_⟩
  rw[if_neg (by simp)]; rfl
 | v::vs,k,l,i,h=>by
  simp only[List.zipIdx_cons,List.foldl_cons];obtain⟨h1,h2⟩:=qrl off vs (k+1) (l.set (off+k) v) i (by simp at h ⊢; omega)
  refine⟨by rw[h1]; simp,?_⟩
  rw[h2];simp only[zg] at h ⊢;by_cases c1:i=off+k
  ·subst c1;rw[if_neg (by omega),if_pos (by omega),z92 (by omega)]; simp
  ·by_cases c2:off+(k+1)<=i/\i<off+(k+1)+vs.length
   ·rw[if_pos c2,if_pos (by omega),show i-(off+k)=(i-(off+(k+1)))+1 by omega]; simp
   ·rw[if_neg c2,if_neg (by omega),zk2 (by omega)]
theorem qzp{place:Nat->Option (Nat×Nat)}{cells:Array Value}{i:Nat}{v:Value}{rest:List (Nat×Value)}{off size:Nat}(hp:place i=some (off,size))(hs:v.cells.size=size)(hf:off+size<=cells.size):
  ∃cells',Instr.fill place cells ((i,v)::rest)=Instr.fill place cells' rest/\cells'.size=cells.size/\∀j,cells'[j]? = if off<=j/\j<off+size then v.cells[j-off]? else cells[j]?:=by
 subst hs;refine⟨v.cells.zipIdx.foldl (fun cs (c,j)=>cs.setIfInBounds (off+j) c) cells,?_,?_,fun j=>?_⟩
 ·simp only[Instr.fill,hp];rw[if_neg (by simp; omega)]
 ·have h:=(qrl off v.cells.toList 0 cells.toList 0 (by simpa using hf)).1
  rw[<-Array.foldl_toList,Array.toList_zipIdx];have h2:=qlx off v.cells.toList 0 cells;have h3:=congrArg List.length h2;rw[h] at h3;simpa using h3
 ·have h:=(qrl off v.cells.toList 0 cells.toList j (by simpa using hf)).2
  rw[<-Array.foldl_toList,Array.toList_zipIdx,<-zG1];have h2:=qlx off v.cells.toList 0 cells;refine Eq.trans (congrArg (fun l=>l[j]?) h2) (h.trans ?_)
  simp
def qrm:List SV->Nat->List SV->List SV
 | cs,_,[]=>cs
 | cs,o,s::r=>qrm (cs.set o s) (o+1) r
theorem qrn:∀(l:List SV) (cs:List SV) (o:Nat),o+l.length<=cs.length->(qrm cs o l).length=cs.length/\∀j,(qrm cs o l)[j]? = if o<=j/\j<o+l.length then l[j-o]? else cs[j]?
 | [],cs,o,_=>⟨rfl,fun j=>by rw[if_neg (by simp)]; rfl⟩
 | s::r,cs,o,h=>by
  simp only[zg] at h;obtain⟨h1,h2⟩:=qrn r (cs.set o s) (o+1) (by simp; omega)
  refine⟨by simp only[qrm,h1,zQ],fun j=>?_⟩
  simp only[qrm,h2,zg];by_cases c1:j=o
  ·subst c1;rw[if_neg (by omega),if_pos (by omega),z92 (by omega)]; simp
  ·by_cases c2:o+1<=j/\j<o+1+r.length
   ·rw[if_pos c2,if_pos (by omega),show j-o=(j-(o+1))+1 by omega]; simp
   ·rw[if_neg c2,if_neg (by omega),zk2 (by omega)]
def DenCs(P:Program)(F:Nat->Prop)(w:World)(ρ:Env)(cs:List SV)(vs:Nat->Option Value)(n:Nat):Prop:=
 cs.length=n/\∀(j:Nat) (s:SV) (x:Value),cs[j]? = some s->vs j=some x->Den P F w ρ s x/\x.oneCell'=true
def fillS(pl:Nat->Option (Nat×Nat)):List SV->List (Nat×SV)->Option (List SV)
 | cs,[]=>some cs
 | cs,(i,s)::rest=>match pl i,s.cells with
  | some (off,size),some l=>bif Nat.beq l.length size&&Nat.ble (off+size) cs.length then fillS pl (qrm cs off l) rest else none
  | _,_=>none
theorem qmD{P:Program}{F:Nat->Prop}{w:World}{ρ:Env}(hone:∀b v,ρ b=some v->v.oneCell'=true)(pl:Nat->Option (Nat×Nat)):
  ∀(parts:List (Nat×SV)) (vparts:List (Nat×Value)) (cs cs':List SV) (arr:Array Value),DenCs P F w ρ cs (fun j=>arr[j]?) arr.size->
   parts.length=vparts.length->(∀(j:Nat) (p:Nat×SV) (q:Nat×Value),parts[j]? = some p->vparts[j]? = some q->p.1=q.1/\Den P F w ρ p.2 q.2)->fillS pl cs parts=some cs'->
   ∃arr',Instr.fill pl arr vparts=some arr'/\DenCs P F w ρ cs' (fun j=>arr'[j]?) arr'.size
 | [],[],cs,cs',arr,h,_,_,hf=>by
  simp only[fillS,zn1] at hf; subst hf;exact⟨arr,rfl,h⟩
 | (i,s)::parts,(i',v)::vparts,cs,cs',arr,h,hl,hp,hf=>by
  obtain⟨e1,e2⟩:=hp 0 _ _ rfl rfl;simp only at e1 e2;subst e1;simp only[fillS] at hf;split at hf
  ·rename_i off size l hq hc;cases hb:(Nat.beq l.length size&&Nat.ble (off+size) cs.length) with
   | false=>rw[hb] at hf; cases hf
   | true=>
    rw[hb] at hf;simp only[za] at hf;simp only[z8] at hb;have hb1:=zc hb.1;have hb2:=zH hb.2;obtain⟨hpo1,hpo2⟩:=qrf hone hc e2;have hvs:v.cells.size=size:=by rw[<-hb1]; exact hpo1.symm
    obtain⟨arr1,f1,f2,f3⟩:=qzp (place:=pl) (cells:=arr) (i:=i) (v:=v) (rest:=vparts) (off:=off) (size:=size) hq hvs (by rw[<-h.1]; exact hb2)
    obtain⟨g1,g2⟩:=qrn l cs off (by omega)
    have hd1:DenCs P F w ρ (qrm cs off l) (fun j=>arr1[j]?) arr1.size:=by
     refine⟨by rw[g1,f2]; exact h.1,fun j s' x hs hx=>?_⟩
     rw[g2] at hs;simp only[f3] at hx;by_cases c:off<=j/\j<off+size
     ·rw[if_pos (by omega)] at hs
      rw[if_pos c] at hx;exact hpo2 _ s' x hs hx
     ·rw[if_neg (by omega)] at hs
      rw[if_neg c] at hx;exact h.2 j s' x hs hx
    obtain⟨arr',k1,k2⟩:=qmD hone pl parts vparts _ cs' arr1 hd1 (by simpa using hl) (fun j p q a b=>hp (j+1) p q (by simpa using a) (by simpa using b)) hf
    exact⟨arr',f1.trans k1,k2⟩
  ·cases hf
 | [],_::_,_,_,_,_,hl,_,_=>by simp at hl
 | _::_,[],_,_,_,_,hl,_,_=>by simp at hl
def qiM:List (Nat×Operand)->List Key
 | []=>[]
 | (_,x)::r=>qac x++qiM r
theorem qgO:∀ {l:List (Nat×Operand)} {p:Nat×Operand},p∈l->∀κ∈qac p.2,κ∈qiM l
 | (i,x)::r,p,h,κ,hκ=>by
  rcases zw.1 h with rfl | h
  ·exact mem_l hκ
  ·exact mem_r (qgO h κ hκ)
def places(Γ:List TI):List Field->Option (List (Nat×Nat))
 | []=>some []
 | f::r=>match look Γ f.type,places Γ r with
  | some j,some l=>some ((f.offset,j.size)::l)
  | _,_=>none
section
variable {P:Program} {w0:World} {M:Mod} {N:Nat} {st:St} {Γ:List TI} {rty:TypeId}
theorem qti(hΓ:Tys P Γ){w:World}:∀ {fs:List Field} {pl:List (Nat×Nat)},places Γ fs=some pl->(fs.mapM (m:=Sem) fun f=>do pure (f.offset,<-sizeOf f.type)).run P w=.ok pl w
 | [],pl,h=>by simp only[places] at h; injection h with h; subst h; rfl
 | f::fs,pl,h=>by
  simp only[places] at h;split at h
  ·rename_i j l hl hr;injection h with h; subst h
   obtain⟨hj,hje⟩:=qau hΓ hl;have hs:=run_sizeOf' (w:=w) hj;rw[hje] at hs;rw[List.mapM_cons,zl];simp only[zl,hs,ze,zo,qti hΓ hr]
  ·cases h
def zeroC(z:Value):List SV:=z.cells.toList.map ofV
theorem qoA{F:Nat->Prop}{w:World}{ρ:Env}{z:Value}(h1:z.cells.toList.all (·.oneCell')=true):DenCs P F w ρ (zeroC z) (fun j=>z.cells[j]?) z.cells.size:=by
 refine⟨by simp[zeroC],fun j s x hs hx=>?_⟩
 simp only[zeroC,zL] at hs;have hx':z.cells.toList[j]? = some x:=by simpa using hx
 rw[hx'] at hs;injection hs with hs; subst hs
 exact⟨qwc x,by simp only[zm] at h1; exact h1 x (zF hx')⟩
def qwp(Γ:List TI)(st:St)(t:TypeId)(parts:List (Nat×Operand)):Option VR:=
 match look Γ t with
 | some i=>match i.desc with
  | .struct fs=>match places Γ fs.toList with
   | some pl=>bif i.zero.cells.toList.all (·.oneCell') then match fillS (fun i=>pl[i]?) (zeroC i.zero) (parts.map fun p=>(p.1,st.ev p.2)) with
     | some cs=>some ⟨true,qiM parts,.agg cs⟩
     | none=>none
    else none
   | none=>none
  | .array _ e=>match look Γ e with
   | some q=>bif i.zero.cells.toList.all (·.oneCell') then match fillS (fun i=>some (i*q.size,q.size)) (zeroC i.zero) (parts.map fun p=>(p.1,st.ev p.2)) with
     | some cs=>some ⟨true,qiM parts,.agg cs⟩
     | none=>none
    else none
   | none=>none
  | _=>none
 | none=>none
theorem qyr(hΓ:Tys P Γ){t:TypeId}{parts:List (Nat×Operand)}{r:VR}(h:qwp Γ st t parts=some r):VOk P w0 M N st (.build t parts.toArray) rty r:=by
 unfold qwp at h;split at h
 ·rename_i i hl;obtain⟨hi,rfl⟩:=qau hΓ hl;split at h
  ·rename_i fs hd;split at h
   ·rename_i pl hpl;cases hz1:i.zero.cells.toList.all (·.oneCell') with
    | false=>rw[hz1] at h; cases h
    | true=>
     rw[hz1] at h; simp only[za] at h;split at h
     ·rename_i cs hf;injection h with h; subst h
      intro st' hag F ρ a w hr dst pos af gd;have hu:=hi.und;rw[hd] at hu;obtain⟨arr',k1,k2⟩:=qmD hr.mem.one (fun i=>pl[i]?) (parts.map fun p=>(p.1,st.ev p.2)) (parts.map fun p=>(p.1,a.eval p.2)) _ cs _ (qoA hz1) (by simp) (by
       intro j p q hp hq;rw[zL] at hp hq;cases hx:parts[j]? with
       | none=>rw[hx] at hq; cases hq
       | some r=>
        rw[hx] at hp hq;simp only[zf1,zn1] at hp hq;subst hp hq;exact⟨rfl,hr.evx hag (fun κ hκ=>qgO (zF hx) κ hκ)⟩) hf
      refine⟨.agg arr',?_,?_⟩
      ·have hplr:(fs.mapM (m:=Sem) fun f=>do pure (f.offset,<-sizeOf f.type)).run P w=.ok pl.toArray w:=by
        rw[Array.mapM_eq_mapM_toList,Sem.run_map];have:=qti (w:=w) hΓ hpl;rw[this]; rfl
       have hfe:(fun(i:Nat)=>pl.toArray[i]?)=(fun(i:Nat)=>pl[i]?):=by funext i; simp
       simp only[execOp,Instr.build,run_zeroValue' hi,zl,ze,zt hu,hplr,zJ1,hfe,k1];rfl
      ·have:=Den.agg (P:=P) (F:=F) (w:=w) (ρ:=ρ) (ss:=cs) (vs:=arr'.toList) (by simpa using k2.1) (fun j s x hs hx=>(k2.2 j s x hs (by simpa using hx)).1) (fun u hu=>by
        obtain⟨j,hj⟩:=zp1 hu;have hjl:j<cs.length:=by rw[k2.1]; simpa using (zr.1 hj).1
        exact(k2.2 j _ u (zk hjl) (by simpa using hj)).2)
       simpa using this
     ·cases h
   ·cases h
  ·rename_i n e hd;split at h
   ·rename_i q hlq;obtain⟨hq,hqe⟩:=qau hΓ hlq;cases hz1:i.zero.cells.toList.all (·.oneCell') with
    | false=>rw[hz1] at h; cases h
    | true=>
     rw[hz1] at h; simp only[za] at h;split at h
     ·rename_i cs hf;injection h with h; subst h
      intro st' hag F ρ a w hr dst pos af gd;have hu:=hi.und;rw[hd] at hu;obtain⟨arr',k1,k2⟩:=qmD hr.mem.one (fun i=>some (i*q.size,q.size)) (parts.map fun p=>(p.1,st.ev p.2)) (parts.map fun p=>(p.1,a.eval p.2)) _ cs _ (qoA hz1) (by simp) (by
       intro j p q hp hq;rw[zL] at hp hq;cases hx:parts[j]? with
       | none=>rw[hx] at hq; cases hq
       | some r=>
        rw[hx] at hp hq;simp only[zf1,zn1] at hp hq;subst hp hq;exact⟨rfl,hr.evx hag (fun κ hκ=>qgO (zF hx) κ hκ)⟩) hf
      refine⟨.agg arr',?_,?_⟩
      ·have hs:=run_sizeOf' (w:=w) hq;rw[hqe] at hs;simp only[execOp,Instr.build,run_zeroValue' hi,zl,ze,zt hu,hs,zJ1,k1];rfl
      ·have:=Den.agg (P:=P) (F:=F) (w:=w) (ρ:=ρ) (ss:=cs) (vs:=arr'.toList) (by simpa using k2.1) (fun j s x hs hx=>(k2.2 j s x hs (by simpa using hx)).1) (fun u hu=>by
        obtain⟨j,hj⟩:=zp1 hu;have hjl:j<cs.length:=by rw[k2.1]; simpa using (zr.1 hj).1
        exact(k2.2 j _ u (zk hjl) (by simpa using hj)).2)
       simpa using this
     ·cases h
   ·cases h
  ·cases h
 ·cases h
/-! ### Function values -/
def qzq(st:St)(fn:Fn)(first captured:List Operand):Option VR:=
 match fn,first with
 | .func f,[]=>some ⟨true,qiM (captured.map fun x=>(0,x)),.clo f (captured.map st.ev)⟩
 | _,_=>none
theorem qzr{fn:Fn}{first captured:List Operand}{r:VR}(h:qzq st fn first captured=some r):VOk P w0 M N st (.makeFunc fn first.toArray captured.toArray) rty r:=by
 unfold qzq at h;split at h
 ·rename_i f;injection h with h; subst h
  intro st' hag F ρ a w hr dst pos af gd;refine⟨.func (.func f) #[] (captured.map a.eval).toArray,?_,.clo (by simp) (fun i s u hs hu=>?_)⟩
  ·simp[execOp,Instr.makeFunc]
  ·rw[zL] at hs hu;cases hx:captured[i]? with
   | none=>rw[hx] at hu; cases hu
   | some x=>
    rw[hx] at hs hu;simp only[zf1,zn1] at hs hu;subst hs hu;exact hr.evx hag (fun κ hκ=>qgO (p:=(0,x)) (zS.2 ⟨x,zF hx,rfl⟩) κ hκ)
 ·cases h
end
end Go.Sq
