/- The second engine, part M: arrays that a call makes: literals, append, make, a shorter one. No condition. -/
import Derived.Test.YtmdijohmddokhaaGreatDoorSqL
import Derived.Lib.AppendZerosOnto
import Derived.Lib.AppendStr
import Derived.Lib.UnsafeStr
namespace Go.Sq
open Go Go.RowKit
def fits(n b:Nat):Bool:=Nat.ble (n*b) 140737488355328
def Ob.as(e:Ty):Ob->Option (List e.den)
 | .arr _ e' l=>if h:e'=e then some (h ▸ l) else none
 | _=>none
def Ob.ty:Ob->TypeId
 | .arr t _ _=>t
 | .map _ t _ _ _=>t
 | .iter _ _ _ _=>0
section
variable {P:Program} {w0:World} {M:Mod} {N:Nat} {F0:Nat->Prop} {ops:Array Oper} {st:St} {Γ:List TI} {rty:TypeId}
variable {F:Nat->Prop} {ρ:Env} {a:Act} {w:World}
theorem Ob.as_spec{A:Ob}{e:Ty}{l:List e.den}(h:A.as e=some l):A=.arr A.ty e l:=by
 cases A with
 | arr t e' l'=>
  simp only[Ob.as] at h;split at h
  ·rename_i he;subst he; injection h with h; subst h; rfl
  ·cases h
 | map=>cases h
 | iter=>cases h
/-! ### Slice literals -/
def zsv:Value->SV
 | .string s=>ofV (.string s)
 | _=>.any
theorem qDu{z x:Value}{q n:Nat}(h:((Array.range n).map (z.cells[· % z.cells.size]!))[q]? = some x):Den P F w ρ (zsv z) x:=by
 cases z with
 | string s=>
  rw[Array.getElem?_map] at h
  cases hq:(Array.range n)[q]? with
  | none=>rw[hq] at h; cases h
  | some k=>
   rw[hq,zf1] at h;injection h with h
   subst h;have hc:(Value.string s).cells=#[.string s]:=rfl;rw[hc];have hs:(#[(Value.string s)]:Array Value).size=1:=rfl;rw[hs,Nat.mod_one];exact .ofStr _
 | _=>exact .any _
def evBSl(Γ:List TI)(st:St)(t:TypeId)(len:Nat)(parts:List (Nat×Operand)):Option (TypeId×(τ:Ty)×List τ.den):=
 match look Γ t with
 | some i=>match i.desc with
  | .slice e=>match look Γ e with
   | some j=>bif Nat.beq j.size j.τ.size&&Nat.blt 0 j.size&&Nat.ble (len*j.size) 16777216&&j.zero.cells.toList.all (·.oneCell')&&Nat.beq j.zero.cells.size j.size then
     match fillS (fun i=>some (i*j.size,j.size)) (List.replicate (len*j.size) (zsv j.zero)) (parts.map fun p=>(p.1,st.ev p.2)) with
     | some cs=>match asmN j.τ len cs with
      | some l=>some (e,⟨j.τ,l⟩)
      | none=>none
     | none=>none
    else none
   | none=>none
  | _=>none
 | none=>none
def qtP(Γ:List TI)(st:St)(N d:Nat)(t:TypeId)(len:Nat)(parts:List (Nat×Operand)):Option MR:=
 match evBSl Γ st t len parts with
 | some (e,⟨τ,l⟩)=>bif Nat.blt d N&&!st.d (fresh st d 8 0) then some ⟨true,qiM parts++[.d (fresh st d 8 0)],[.d (fresh st d 8 0),.a (fresh st d 8 0) (some (.arr e τ l)),.r d (.own (fresh st d 8 0))]⟩ else none
 | none=>none
def qrq(Γ:List TI)(st:St)(N d:Nat)(t:TypeId)(len:Nat)(parts:List (Nat×Operand)):Option MR:=
 match evBSl Γ st t len parts with
 | some (_,⟨τ,l⟩)=>bif Nat.blt d N then some ⟨true,qiM parts,[.r d (.v (.sl τ) l)]⟩ else none
 | none=>none
theorem qrr(hΓ:Tys P Γ){t:TypeId}{len:Nat}{parts:List (Nat×Operand)}{e:TypeId}{τ:Ty}{l:List τ.den}(h:evBSl Γ st t len parts=some (e,⟨τ,l⟩)){st':St}{rd:List Key}(hag:∀κ∈rd,agree st st' κ)(hrd:∀κ∈qiM parts,κ∈rd)
  {F:Nat->Prop} {ρ:Env} {a:Act} {w:World} (hr:Rel' P w0 M N F ρ st' a w):∃arr',(Instr.buildSlice t len (parts.toArray.map fun(i,x)=>(i,a.eval x))).run P w=.ok (.slice (some ⟨w.heap.size,0,none⟩) len len) (w.alloc (.cells arr' e))∧
   ObOk F (w.alloc (.cells arr' e)) (.arr e τ l) (.slice (some ⟨w.heap.size,0,none⟩) len len):=by
 unfold evBSl at h;split at h
 ·rename_i i hl;obtain⟨hi,rfl⟩:=qau hΓ hl;split at h
  ·rename_i e hd;split at h
   ·rename_i j hl2;obtain⟨hj,rfl⟩:=qau hΓ hl2;generalize hc:(Nat.beq j.size j.τ.size&&Nat.blt 0 j.size&&Nat.ble (len*j.size) 16777216&&j.zero.cells.toList.all (·.oneCell')&&Nat.beq j.zero.cells.size j.size)=c at h;cases c with
    | false=>cases h
    | true=>
     simp only[za] at h;simp only[z8] at hc;obtain⟨⟨⟨⟨c3,c4⟩,c5⟩,c6⟩,c7⟩:=hc;rw[zX] at c4;have c3:=zc c3;have c5:=zH c5;have c7:=zc c7;split at h
     ·rename_i cs hf;split at h
      ·rename_i l' hasm;injection h with h; injection h with h1 h2; subst h1
       injection h2 with h2 h3; subst h2; have h3:=eq_of_heq h3; subst h3
       have hu:=hi.und;rw[hd] at hu
       let z0:Array Value:=if len*j.size=0 then #[] else j.zero.cells
       let base:Array Value:=(Array.range (len*j.size)).map (z0[· % z0.size]!)
       have hbase:∀x∈base,x.oneCell'=true:=by
        intro x hx;simp only[base,Array.mem_map,Array.mem_range] at hx;obtain⟨q,hq,rfl⟩:=hx;have hne:len*j.size≠0:=by omega
        have hz0:z0=j.zero.cells:=by simp only[z0]; rw[if_neg hne]
        have hall:∀v∈z0,v.oneCell'=true:=by
         rw[hz0];simp only[zm] at c6;intro v hv; exact c6 v (by simpa using hv)
        have hlt:q%z0.size<z0.size:=Nat.mod_lt _ (by rw[hz0,c7]; exact c4)
        rw[getElem!_pos z0 _ hlt];exact hall _ (Array.getElem_mem hlt)
       have hDC:DenCs P F w ρ (List.replicate (len*j.size) (zsv j.zero)) (fun q=>base[q]?) base.size:=by
        refine⟨by simp[base],fun q s x hs hx=>?_⟩
        have:s=zsv j.zero:=by
         have:=zF hs;exact(List.mem_replicate.1 this).2
        subst this;refine⟨?_,hbase x (Array.mem_of_getElem? hx)⟩
        have hne:len*j.size≠0:=fun e=>by
         have hb:base.size=0:=by simp[base,e]
         have:=(zT.1 hx).1;omega
        have hz0:z0=j.zero.cells:=by simp only[z0]; rw[if_neg hne]
        simp only[base,hz0] at hx;exact qDu hx
       obtain⟨arr',k1,k2⟩:=qmD hr.mem.one (fun i=>some (i*j.size,j.size)) (parts.map fun p=>(p.1,st.ev p.2)) (parts.map fun p=>(p.1,a.eval p.2)) _ cs _ hDC (by simp) (by
        intro q p p' hp hq;rw[zL] at hp hq;cases hx:parts[q]? with
        | none=>rw[hx] at hq; cases hq
        | some r=>
         rw[hx] at hp hq;simp only[zf1,zn1] at hp hq;subst hp hq;exact⟨rfl,hr.evx hag (fun κ hκ=>hrd κ (qgO (zF hx) κ hκ))⟩) hf
       have hrun:(Instr.buildSlice i.t len (parts.toArray.map fun(i,x)=>(i,a.eval x))).run P w=.ok (.slice (some ⟨w.heap.size,0,none⟩) len len) (w.alloc (.cells arr' j.t)):=by
        have hb:¬(len*j.size>2^24):=by omega
        unfold Instr.buildSlice;simp only[zl,zt hu,ze,run_sizeOf' hj,if_neg hb];by_cases h0:len*j.size=0
        ·simp only[base,z0,if_pos h0] at k1;rw[if_pos h0];simp only[zl,zo,ze,zJ1,k1,newRow,run_newObj];rfl
        ·simp only[base,z0,if_neg h0] at k1;rw[if_neg h0];simp only[zl,zo,ze,run_zeroValue' hj,zJ1,k1,newRow,run_newObj];rfl
       obtain⟨m1,m2,m3⟩:=qxj (P:=P) (F:=F) (w:=w) (ρ:=ρ) (vs:=arr'.toList) hasm (by simpa using k2.1) (fun q s u hs hu=>(k2.2 q s u hs (by simpa using hu)).1)
       have hob:ObOk F (w.alloc (.cells arr' j.t)) (.arr j.t j.τ l') (.slice (some ⟨w.heap.size,0,none⟩) len len):=by
        have hlen:arr'.size=len*j.τ.size:=by simpa using m2
        have hcm:len<=maxLen:=by
         have h2:len<=len*j.size:=zT1 _ c4;simp only[maxLen]; omega
        refine⟨arr'.toList,.of ⟨by simp[hlen,m1],.inr ⟨w.heap.size,len,arr',by rw[m1],zu1 _,zm2 w _,by rw[m1]; exact z61 _,hcm,hlen,?_⟩⟩,fun q x hx=>?_⟩
        ·rw[m1,<-hlen]; exact zz (by simp)
        ·exact(m3 q x hx).mono (fun _ h=>h) (fun g hF=>zB1 w _ _ (hr.mem.fb _ hF))
       exact⟨arr',hrun,hob⟩
      ·cases h
     ·cases h
   ·cases h
  ·cases h
 ·cases h
theorem qwu(hΓ:Tys P Γ){d:Nat}{t:TypeId}{len:Nat}{parts:List (Nat×Operand)}{r:MR}(h:qtP Γ st N d t len parts=some r):MOk P w0 M N F0 ops st (some d) (.buildSlice t len parts.toArray) rty r:=by
 unfold qtP at h;split at h
 ·rename_i e τ l hl;cases hb:(Nat.blt d N&&!st.d (fresh st d 8 0)) with
  | false=>rw[hb] at h; cases h
  | true=>
   rw[hb] at h; injection h with h; subst h
   rw[z8,zX,zq] at hb;intro pos af;refine RT.stepW rfl fun st' hag F ρ a w hr=>?_
   have hd':st'.d (fresh st d 8 0)=false:=by rw[<-hb.2]; exact(hag (.d _) (by simp)).symm
   obtain⟨arr',h1,h2⟩:=qrr hΓ hl hag (fun κ hκ=>mem_l hκ) hr
   refine⟨_,_,F,_,.inl ?_,hr.newA hd' hb.1 (qd8 w (.cells arr' e)) h2 (fun g hg=>by rw[qor hg]; exact z61 _),fun _ h=>h,fun _ h=>.inl h⟩
   simp only[execOp,zl,h1,ze,zo]
 ·cases h
theorem ob_rd{ty:TypeId}{e:Ty}{l:List e.den}{u:Value}(h:ObOk F w (.arr ty e l) u):RdV (fun g=>F g\/blkOf u=some g) w (.sl e) l u:=by
 obtain⟨xs,a2,a3⟩:=h;rcases a2.2 with⟨ad,rfl,hn⟩ | ⟨g,cap,cur,rfl,hcur,a4,a5,_⟩
 ·have:=za1 hn;subst this;cases ad with
  | none=>exact⟨[.slice none 0 0],⟨none,0,rfl,rfl⟩,rfl⟩
  | some ad=>exact⟨[.slice (some ad) 0 0],⟨some ad,0,rfl,fun h=>by omega,z61 _,zu1 _,fun i x hx=>by simp at hx⟩,rfl⟩
 ·refine⟨[.slice (some ⟨g,0,none⟩) l.length (cap+1)],⟨some ⟨g,0,none⟩,cap+1,rfl,fun _=>.inr rfl,a4,a5,fun i x hx=>⟨_,(a3 i x hx).mono (fun _ h=>.inl h) (fun _ _=>rfl),fun j v hj=>?_⟩⟩,rfl⟩
  rw[zp] at hj;split at hj
  ·rw[zB] at hj; exact a2.cells (g:=g) rfl _ _ hj
  ·cases hj
theorem qvl(hΓ:Tys P Γ){d:Nat}{t:TypeId}{len:Nat}{parts:List (Nat×Operand)}{r:MR}(h:qrq Γ st N d t len parts=some r):MOk P w0 M N F0 ops st (some d) (.buildSlice t len parts.toArray) rty r:=by
 unfold qrq at h;split at h
 ·rename_i e τ l hl;cases hb:Nat.blt d N with
  | false=>rw[hb] at h; cases h
  | true=>
   rw[hb] at h; injection h with h; subst h
   rw[zX] at hb;intro pos af;refine RT.stepW rfl fun st' hag F ρ a w hr=>?_
   obtain⟨arr',h1,h2⟩:=qrr hΓ hl hag (fun κ hκ=>hκ) hr
   have hg:=hr.grow (F':=fun g=>F g\/g=w.heap.size) (qd8 w (.cells arr' e)) (fun _ h=>.inl h) (fun g h=>h.elim .inl (fun h=>.inr (by omega))) (fun g h=>by
    have hs:(w.alloc (.cells arr' e)).heap.size=w.heap.size+1:=by simp
    rcases h with h | h
    ·have:=hr.mem.fb g h; omega
    ·omega)
   have hrd:=ob_rd h2;have hrd:RdV (fun g=>F g\/g=w.heap.size) (w.alloc (.cells arr' e)) (.sl τ) l (.slice (some ⟨w.heap.size,0,none⟩) len len):=by
    obtain⟨cs,q1,q2⟩:=hrd;exact⟨cs,q1.mono (fun g h=>h.elim .inl fun h=>.inr (qor h)) (fun _ _=>rfl),q2⟩
   refine⟨_,ρ,_,_,.inl ?_,hg.setR hb (.v hrd),fun _ h=>.inl h,fun g h=>h.elim .inl (fun h=>.inr (.inr (by have:=hr.fr.size; omega)))⟩
   simp only[execOp,zl,h1,ze,zo]
 ·cases h
/-! ### append -/
theorem qoC{e:Ty}{l:List e.den}{u:Value}(h:RdV F w (.sl e) l u):(∃c,u=.slice none 0 c/\l=[])\/∃(ad:Addr) (c:Nat) (news:List Value),u=.slice (some ad) l.length c/\news.length=l.length*e.size∧
  (∀j u,news[j]? = some u->w.cell? (ad.add j)=some u/\u.oneCell'=true)/\∀(i:Nat) (x:e.den),l[i]? = some x->RdC F w e x ((news.drop (i*e.size)).take e.size):=by
 obtain⟨cs,⟨ad,cap,rfl,h2⟩,rfl⟩:=h;cases ad with
 | none=>
  have h2:l=[]:=h2;subst h2;exact .inl ⟨cap,rfl,rfl⟩
 | some ad=>
  obtain⟨h3,h4,h5,h6⟩:=h2;have hel:∀i x,l[i]? = some x->∃es,RdC F w e x es/\∀j v,es[j]? = some v->w.cell? (ad.add (i*e.size+j))=some v:=h6;have hcell:∀i j,i<l.length->j<e.size->∃u,w.cell? (ad.add (i*e.size+j))=some u/\u.oneCell'=true:=by
   intro i j hi hj;obtain⟨es,a1,a2⟩:=hel i _ (zk hi);have hjl:j<es.length:=by rw[a1.size]; exact hj
   exact⟨es[j],a2 j _ (zk hjl),a1.one _ (zY2 hjl)⟩
  refine .inr ⟨ad,cap,(List.range (l.length*e.size)).map fun j=>(w.cell? (ad.add j)).getD undef,rfl,by simp,fun j u hu=>?_,fun i x hx=>?_⟩
  ·have hj:j<l.length*e.size:=by simpa using (zr.1 hu).1
   have hk:0<e.size:=by
    rcases zW1 e.size with h0 | h0
    ·rw[h0] at hj; simp at hj
    ·exact h0
   obtain⟨v,b1,b2⟩:=hcell (j/e.size) (j%e.size) (zG2 (by rw[zX1]; exact hj)) (Nat.mod_lt _ hk)
   rw[show j/e.size*e.size+j%e.size=j by rw[zX1]; exact zN2 j e.size] at b1
   simp[hj,b1] at hu;subst hu; exact⟨b1,b2⟩
  ·obtain⟨es,a1,a2⟩:=hel i x hx;have hi:i<l.length:=(zr.1 hx).1;have hrow:i*e.size+e.size<=l.length*e.size:=by
    have:=zA e.size (show i+1<=l.length from hi)
    rwa[z31,zx1] at this
   have hes:((((List.range (l.length*e.size)).map fun j=>(w.cell? (ad.add j)).getD undef).drop (i*e.size)).take e.size)=es:=by
    apply zC1;intro q;by_cases hq:q<e.size
    ·rw[zp,if_pos hq,zB];have hqe:q<es.length:=by rw[a1.size]; exact hq
     have:=a2 q _ (zk hqe);simp[show i*e.size+q<l.length*e.size by omega,this,hqe]
    ·rw[zp,if_neg hq,zl1 (by rw[a1.size]; omega)]
   rw[hes]; exact a1
theorem qq1{b:Nat}{ty:TypeId}{e:Ty}{l:List e.den}{u:Value}(h:MemOk P F w ρ st)(hA:st.a b=some (.arr ty e l))(hρ:ρ b=some u):(∃c,u=.slice none 0 c/\l=[])\/∃(ad:Addr) (c:Nat) (news:List Value),u=.slice (some ad) l.length c/\news.length=l.length*e.size∧
  (∀j u,news[j]? = some u->w.cell? (ad.add j)=some u/\u.oneCell'=true)/\∀(i:Nat) (x:e.den),l[i]? = some x->RdC F w e x ((news.drop (i*e.size)).take e.size):=by
 obtain⟨u',a1,xs,a2,a3⟩:=h.arr b _ hA;rw[hρ] at a1; injection a1 with a1; subst a1
 rcases a2.2 with⟨ad,rfl,hn⟩ | ⟨g,cap,cur,rfl,hcur,_⟩
 ·have hl0:=za1 hn;subst hl0;cases ad with
  | none=>exact .inl ⟨_,rfl,rfl⟩
  | some ad=>exact .inr ⟨ad,0,[],rfl,by simp,fun j u hu=>by simp at hu,fun i x hx=>by simp at hx⟩
 ·refine .inr ⟨⟨g,0,none⟩,cap+1,xs,rfl,a2.1,fun j u hu=>⟨a2.cells (g:=g) rfl j u hu,?_⟩,a3⟩
  have hj:j<l.length*e.size:=by rw[<-a2.1]; exact(zr.1 hu).1
  have hk:0<e.size:=by
   rcases zW1 e.size with h0 | h0
   ·rw[h0] at hj; simp at hj
   ·exact h0
  have hi:j/e.size<l.length:=zG2 (by rw[zX1]; exact hj)
  have hd:=a3 (j/e.size) _ (zk hi);refine hd.one u ?_
  have e1:((xs.drop (j/e.size*e.size)).take e.size)[j%e.size]? = some u:=by
   rw[zp,if_pos (Nat.mod_lt _ hk),zB,show j/e.size*e.size+j%e.size=j by rw[zX1]; exact zN2 j e.size]
   exact hu
  exact zF e1
def oldOf(st:St)(te:TypeId)(e:Ty):SV->Option (List e.den×List Key×List Wr)
 | .raw (.slice none 0 0)=>some ([],[],[])
 | .own b=>match st.a b with
  | some A=>match A.as e with
   | some l=>bif Nat.beq A.ty te then some (l,[.a b],[.a b none]) else none
   | none=>none
  | none=>none
 | _=>none
def qxl(st:St)(e:Ty):SV->Option (List e.den×List Key)
 | .own b=>match st.a b with
  | some A=>match A.as e with
   | some l=>some (l,[.a b])
   | none=>none
  | none=>none
 | s=>match s.as (.sl e) with
  | some l=>some (l,[])
  | none=>none
def qtQ(Γ:List TI)(st:St)(N d:Nat)(t t2:TypeId)(x y:Operand):Option MR:=
 match look Γ t with
 | some i=>match i.desc with
  | .slice e=>match look Γ e with
   | some j=>bif Nat.blt d N&&!st.d (fresh st d 8 0)&&Nat.beq j.size j.τ.size&&Nat.blt 0 j.size&&Nat.blt 0 j.bytes&&Nat.beq j.zero.cells.size j.size&&Nat.beq t t2 then
     match oldOf st e j.τ (st.ev x),qxl st j.τ (st.ev y) with
     | some (l,ks,ws),some (l2,ks2)=>some ⟨fits (l.length+l2.length) j.bytes,qac x++(qac y++(.d (fresh st d 8 0)::(ks++ks2))),ws++[.d (fresh st d 8 0),.a (fresh st d 8 0) (some (.arr e j.τ (l++l2))),.r d (.own (fresh st d 8 0))]⟩
     | _,_=>none
    else none
   | none=>none
  | _=>none
 | none=>none
theorem qmE{e:Ty}{l l2:List e.den}{xs news:List Value}{w':World}(h1:xs.length=l.length*e.size)(hx:∀(i:Nat) (x:e.den),l[i]? = some x->RdC F w' e x ((xs.drop (i*e.size)).take e.size))
  (hn:∀(i:Nat) (x:e.den),l2[i]? = some x->RdC F w' e x ((news.drop (i*e.size)).take e.size)) (i:Nat) (x:e.den) (h:(l++l2)[i]? = some x):RdC F w' e x (((xs++news).drop (i*e.size)).take e.size):=by
 by_cases hi:i<l.length
 ·rw[zR hi] at h;have hrow:i*e.size+e.size<=l.length*e.size:=by
   have:=zA e.size (show i+1<=l.length from hi)
   rwa[z31,zx1] at this
  rw[zN1 (by omega),zg1 (by simp; omega)]
  exact hx i x h
 ·rw[zV (by omega)] at h
  have:=hn _ x h;have e1:i*e.size=xs.length+(i-l.length)*e.size:=by
   rw[h1,<-z31]; congr 1; omega
  rw[e1,zO1,zZ (by omega),zC,zS1]
  exact this
theorem qwv(hΓ:Tys P Γ){d:Nat}{t t2:TypeId}{x y:Operand}{r:MR}(h:qtQ Γ st N d t t2 x y=some r)(hg:r.g=true):
  MOk P w0 M N F0 ops st (some d) (.call { callee:=.builtin .append,args:=#[x,y],argTypes:=#[t,t2] }) rty r:=by
 unfold qtQ at h;split at h
 ·rename_i i hl;obtain⟨hi,rfl⟩:=qau hΓ hl;split at h
  ·rename_i e hd;split at h
   ·rename_i j hl2;obtain⟨hj,rfl⟩:=qau hΓ hl2;generalize hc:(Nat.blt d N&&!st.d (fresh st d 8 0)&&Nat.beq j.size j.τ.size&&Nat.blt 0 j.size&&Nat.blt 0 j.bytes&&Nat.beq j.zero.cells.size j.size&&Nat.beq i.t t2)=c at h;cases c with
    | false=>cases h
    | true=>
     simp only[za] at h;simp only[z8,zq] at hc;obtain⟨⟨⟨⟨⟨⟨c1,c2⟩,c3⟩,c4⟩,c5⟩,c6⟩,c7⟩:=hc;rw[zX] at c1 c4 c5;have c3:=zc c3;have c6:=zc c6;have c7:=zc c7;subst c7;split at h
     ·rename_i l ks ws l2 ks2 hold hnew;injection h with h; subst h
      have hfit:=zH hg;have hbig:l.length+l2.length<=140737488355328:=zG (zT1 _ c5) hfit;intro pos af;refine RT.stepW rfl fun st' hag F ρ a w hr=>?_
      have hd':st'.d (fresh st d 8 0)=false:=by rw[<-c2]; exact(hag (.d _) (by simp)).symm
      have hu:=hi.und;rw[hd] at hu;have hxd:=hr.evx hag (fun _ h=>mem_l h) (x:=x)
      have hyd:=hr.evx hag (fun _ h=>mem_r (mem_l h)) (x:=y)
      have hinfo:=hj.info
      -- the news
      have hns:(∃c,a.eval y=.slice none 0 c/\l2=[])\/∃(ad:Addr) (c:Nat) (news:List Value),a.eval y=.slice (some ad) l2.length c/\news.length=l2.length*j.τ.size∧
        (∀q u,news[q]? = some u->w.cell? (ad.add q)=some u/\u.oneCell'=true)/\∀(q:Nat) (x:j.τ.den),l2[q]? = some x->RdC F w j.τ x ((news.drop (q*j.τ.size)).take j.τ.size):=by
       unfold qxl at hnew;split at hnew
       ·rename_i b hy;split at hnew
        ·rename_i A hA;split at hnew
         ·rename_i l' hl';injection hnew with hnew; injection hnew with e1 e2; subst e1 e2
          have hA':st'.a b=some A:=by rw[<-hA]; exact(hag (.a b) (by simp)).symm
          rw[Ob.as_spec hl'] at hA';rw[hy] at hyd;generalize a.eval y=u at hyd ⊢;cases hyd with
          | own hρ=>exact qq1 hr.mem hA' hρ
         ·cases hnew
        ·cases hnew
       ·split at hnew
        ·rename_i l' hl';injection hnew with hnew; injection hnew with e1 e2; subst e1 e2
         exact qoC (qtf hl' hyd)
        ·cases hnew
      -- the array that is appended to
      have hos:(a.eval x=.slice none 0 0/\l=[]/\ws=[])\/∃b A u,a.eval x=u/\ws=[.a b none]/\st'.a b=some A/\ρ b=some u/\A=.arr j.t j.τ l:=by
       unfold oldOf at hold;split at hold
       ·rename_i hx;injection hold with hold; injection hold with e1 e2; injection e2 with e2 e3; subst e1 e2 e3
        rw[hx] at hxd;generalize a.eval x=u at hxd ⊢;cases hxd with
        | raw=>exact .inl ⟨rfl,rfl,rfl⟩
       ·rename_i b hx;split at hold
        ·rename_i A hA;split at hold
         ·rename_i l' hl';cases hb:Nat.beq A.ty j.t with
          | false=>rw[hb] at hold; cases hold
          | true=>
           rw[hb] at hold; injection hold with hold; injection hold with e1 e2; injection e2 with e2 e3; subst e1 e2 e3
           have hA':st'.a b=some A:=by rw[<-hA]; exact(hag (.a b) (by simp)).symm
           rw[hx] at hxd;generalize a.eval x=u at hxd ⊢;cases hxd with
           | own hρ=>exact .inr ⟨b,A,u,rfl,rfl,hA',hρ,by rw[Ob.as_spec hl',zc hb]⟩
         ·cases hold
        ·cases hold
       ·cases hold
      have hob0:∃xs,OwnR w j.t j.size (a.eval x) l.length xs/\∀(q:Nat) (x:j.τ.den),l[q]? = some x->RdC F w j.τ x ((xs.drop (q*j.τ.size)).take j.τ.size):=by
       rcases hos with⟨h1,h2,_⟩ | ⟨b,A,u,h1,_,h3,h4,h5⟩
       ·subst h2; rw[h1]; exact⟨[],OwnR.nil w j.t j.size none,fun q x hx=>by simp at hx⟩
       ·obtain⟨u',g1,xs,g2,g3⟩:=hr.mem.arr b A h3 |> fun h=>by rw[h5] at h; exact h
        rw[h4] at g1; injection g1 with g1; subst g1
        rw[h1,c3]; exact⟨xs,g2,g3⟩
      obtain⟨xs,ho1,ho2⟩:=hob0;have happ:∃v' w',(Builtin.append_ #[i.t,i.t] rty #[a.eval x,a.eval y]).run P w=.ok v' w'/\ObOk F w' (.arr j.t j.τ (l++l2)) v'/\Fr w (fun g=>blkOf (a.eval x)=some g) w'/\(blkOf v'=blkOf (a.eval x)\/∀g,blkOf v'=some g->w.heap.size<=g)/\(a.eval x=.slice none 0 0->Fr w (fun _=>False) w'/\∀g,blkOf v'=some g->w.heap.size<=g):=by
       have hFne:∀g,F g->∀row,blkOf (a.eval x)=row->some g≠row:=by
        intro g hF row hrow e;subst e;rcases hos with⟨h1,_⟩ | ⟨b,A,u,h1,_,h3,h4,_⟩
        ·rw[h1] at hrow; cases hrow
        ·rw[h1] at hrow;exact hr.mem.own b u g (.inr (by rw[h3]; simp)) h4 hrow hF
       rcases hns with⟨c,hy1,hy2⟩ | ⟨ad,c,news,hy1,hy2,hy3,hy4⟩
       ·subst hy2;have hr1:=qwq (P:=P) (w:=w) i.t rty j.t j.size j.bytes j.zero hu hinfo (a.eval x) l.length xs ho1 c;rw[<-hy1] at hr1;refine⟨_,w,hr1,⟨xs,by rw[zM,<-c3]; exact ho1,by rw[zM]; exact ho2⟩,Fr.refl w _,.inl rfl,fun hnil=>⟨Fr.refl w _,fun g hg=>by rw[hnil] at hg; cases hg⟩⟩
       ·obtain⟨v',w',k1,k2,k3,k4⟩:=qoB (P:=P) (w:=w) i.t rty j.t j.size j.bytes j.zero hu hinfo c6 c4 (a.eval x) l.length xs ho1 ad l2.length c news (by rw[hy2,c3]) (fun q u h=>(hy3 q u h).1) (fun u hu=>by
         obtain⟨q,hq⟩:=zp1 hu; exact(hy3 q u hq).2) (by simp only[maxLen]; omega) hfit
        rw[<-hy1] at k1;have hFw:∀g,F g->w'.heap[g]? = w.heap[g]?:=fun g hF=>k3.block g (hr.mem.fb g hF) (hFne g hF _ rfl)
        have hc':∀g,F g->w'.heap[g]? = w.heap[g]?:=hFw;have hfr:Fr w (fun g=>blkOf (a.eval x)=some g) w':=⟨k3.os,k3.tape,k3.output,k3.size,fun g hg hn=>k3.block g hg (fun e=>hn e.symm)⟩
        refine⟨v',w',k1,⟨xs++news,by rw[zd,<-c3]; exact k2,fun q z hz=>qmE (by rw[<-c3]; exact ho1.1) (fun q z hz=>(ho2 q z hz).mono (fun _ h=>h) hc') (fun q z hz=>(hy4 q z hz).mono (fun _ h=>h) hc') q z hz⟩,hfr,?_,fun hnil=>⟨⟨k3.os,k3.tape,k3.output,k3.size,fun g hg _=>k3.block g hg (by rw[hnil]; intro e; cases e)⟩,?_⟩⟩
        ·exact k4
        ·intro g hg;rcases k4 with k4 | k4
         ·rw[k4,hnil] at hg; cases hg
         ·exact k4 g hg
      obtain⟨v',w',k1,k2,k3,k4,k5⟩:=happ;have hexec:(execOp a.eval ⟨some d,.call { callee:=.builtin .append,args:=#[x,y],argTypes:=#[i.t,i.t] },rty,pos,af,none⟩).run P w=.ok (.value v') w':=by
       simp only[execOp,resolve,invoke,builtin,zl,zo,ze,zJ1,zh1,zc2,k1]
      rcases hos with⟨h1,h2,h3⟩ | ⟨b,A,u,h1,h2,h3,h4,h5⟩
      ·subst h3;obtain⟨k6,k7⟩:=k5 h1;exact⟨v',_,F,w',.inl hexec,hr.newA hd' c1 k6 k2 k7,fun _ h=>h,fun _ h=>.inl h⟩
      ·subst h2;rw[h1] at k3 k4;exact⟨v',_,F,w',.inl hexec,hr.replA hd' c1 h3 h4 k3 k2 k4,fun _ h=>h,fun _ h=>.inl h⟩
     ·cases h
   ·cases h
  ·cases h
 ·cases h
/-! ### make -/
def makeG(b:Nat)(m:Int):Bool:=decide (0<=m)&&decide ((b:Int)*m<=281474976710656)
def qtR:Operand->Operand->Bool
 | .tmp t,.tmp t'=>Nat.beq t t'
 | _,_=>false
def qzx(Γ:List TI)(st:St)(N d:Nat)(t:TypeId)(x y:Operand):Option MR:=
 match look Γ t with
 | some i=>match i.desc with
  | .slice e=>match look Γ e with
   | some j=>bif Nat.blt d N&&!st.d (fresh st d 8 0)&&Nat.beq j.size j.τ.size&&Nat.blt 0 j.size&&Nat.blt 0 j.bytes&&Nat.beq j.zero.cells.size j.size then
     match(st.ev x).int?,(st.ev y).int?,asm j.τ (zeroC j.zero) with
     | some (.i64,m),some (.i64,m'),some (z,[])=>some ⟨_root_.cond (qtR x y) (makeG j.bytes m) ((decide (0<=m)&&decide (m<=m'))&&makeG j.bytes m'),qac x++(qac y++[.d (fresh st d 8 0)]),[.d (fresh st d 8 0),.a (fresh st d 8 0) (some (.arr e j.τ (List.replicate m.toNat z))),.r d (.own (fresh st d 8 0))]⟩
     | _,_,_=>none
    else none
   | none=>none
  | _=>none
 | none=>none
theorem qzy(hΓ:Tys P Γ){d:Nat}{t:TypeId}{x y:Operand}{r:MR}(h:qzx Γ st N d t x y=some r)(hg:r.g=true):MOk P w0 M N F0 ops st (some d) (.makeSlice t x y) rty r:=by
 unfold qzx at h;split at h
 ·rename_i i hl;obtain⟨hi,rfl⟩:=qau hΓ hl;split at h
  ·rename_i e hd;split at h
   ·rename_i j hl2;obtain⟨hj,rfl⟩:=qau hΓ hl2;generalize hc:(Nat.blt d N&&!st.d (fresh st d 8 0)&&Nat.beq j.size j.τ.size&&Nat.blt 0 j.size&&Nat.blt 0 j.bytes&&Nat.beq j.zero.cells.size j.size)=c at h;cases c with
    | false=>cases h
    | true=>
     simp only[za] at h;simp only[z8,zq] at hc;obtain⟨⟨⟨⟨⟨c1,c2⟩,c3⟩,c4⟩,c5⟩,c6⟩:=hc;rw[zX] at c1 c4 c5;have c3:=zc c3;have c6:=zc c6;split at h
     ·rename_i m m' z hm hm' hz;injection h with h; subst h
      obtain⟨hm0,hle,g1,g2⟩:0<=m/\m<=m'/\0<=m'/\(j.bytes:Int)*m'<=281474976710656:=by
       have hg':_root_.cond (qtR x y) (makeG j.bytes m) ((decide (0<=m)&&decide (m<=m'))&&makeG j.bytes m')=true:=hg;cases hst:qtR x y with
       | true=>
        rw[hst] at hg';have hxy:x=y:=by
         cases x <;> cases y <;> first | (simp only[qtR] at hst; rw[zc hst]) | cases hst
        subst hxy; rw[hm] at hm'; injection hm' with hm'; injection hm' with _ hm'; subst hm'
        simp only[za,makeG,z8,zj] at hg';exact⟨hg'.1,Int.le_refl _,hg'.1,hg'.2⟩
       | false=>
        rw[hst] at hg';simp only[zb,makeG,z8,zj] at hg';exact⟨hg'.1.1,hg'.1.2,hg'.2.1,hg'.2.2⟩
      intro pos af;refine RT.stepW rfl fun st' hag F ρ a w hr=>?_
      have hd':st'.d (fresh st d 8 0)=false:=by rw[<-c2]; exact(hag (.d _) (by simp)).symm
      have hu:=hi.und;rw[hd] at hu;have hxd:=(hr.evx hag (fun _ h=>mem_l h) (x:=x)).int hm
      have hyd:=(hr.evx hag (fun _ h=>mem_r (mem_l h)) (x:=y)).int hm'
      obtain⟨inf,i1,i2,i3,i4⟩:=hj.info;have hmm:((m.toNat:Nat):Int)=m:=by omega
      have hmm':((m'.toNat:Nat):Int)=m':=by omega
      have hb:(inf.bytes:Int)*m'<=281474976710656:=by rw[i3]; exact g2
      have hsm:m'.toNat<=281474976710656:=by
       have h1:inf.bytes*m'.toNat<=281474976710656:=by
        have h2:((inf.bytes*m'.toNat:Nat):Int)=(inf.bytes:Int)*m':=by rw[Int.natCast_mul,hmm']
        omega
       rw[i3] at h1; exact zG (Nat.le_mul_of_pos_left _ c5) h1
      have r1:=run_make (P:=P) w i.t j.t inf j.zero hu i1 i4 .i64 .i64 m m' hm0 hle hb (by omega)
      rw[i2,c3] at r1;obtain⟨w',hw'⟩:∃w',w'=w.alloc (.cells (madeCells j.zero.cells (m'.toNat*j.τ.size)) j.t):=⟨_,rfl⟩;have r3:w.grownBy w' none:=by rw[hw']; exact World.grownBy_alloc w _ none
      have hmle:m.toNat<=m'.toNat:=by omega
      have hcsz:(madeCells j.zero.cells (m'.toNat*j.τ.size)).size=m'.toNat*j.τ.size:=size_madeCells _ _;have hmk:m.toNat*j.τ.size<=m'.toNat*j.τ.size:=zA _ hmle;have r2:w'.ownsRow 0 j.t j.τ.size (.slice (some ⟨w.heap.size,0,none⟩) m.toNat m'.toNat) m.toNat ((madeCells j.zero.cells (m'.toNat*j.τ.size)).toList.take (m.toNat*j.τ.size)):=by
       refine⟨by rw[zn,zr1,hcsz]; omega,.inr ⟨w.heap.size,m'.toNat,_,rfl,zu1 _,by rw[hw']; exact zm2 w _,hmle,by unfold maxLen; omega,hcsz,rfl⟩⟩
      have hfr:Fr w (fun _=>False) w':=⟨r3.os,r3.tape,r3.output,r3.size,fun g hg _=>r3.block g hg (fun e=>by cases e)⟩
      obtain⟨z1,z2,z3⟩:=qn3 (P:=P) (F:=F) (w:=w) (ρ:=ρ) (vs:=j.zero.cells.toList) hz (by simp[zeroC]) (fun q s u hs hu=>by
       simp only[zeroC,zL] at hs;rw[hu] at hs; injection hs with hs; subst hs; exact qwc u)
      have hzz:j.zero.cells.toList.take j.τ.size=j.zero.cells.toList:=zz (by simp; omega)
      rw[hzz] at z2;have hob:ObOk F w' (.arr j.t j.τ (List.replicate m.toNat z)) (.slice (some ⟨w.heap.size,0,none⟩) m.toNat m'.toNat):=by
       refine⟨_,by rw[zf2]; exact .of r2,fun q x hx=>?_⟩
       have hq:q<m.toNat:=by have:=(zr.1 hx).1; simpa using this
       obtain rfl:x=z:=(List.mem_replicate.1 (zF hx)).2;have hrow:q*j.τ.size+j.τ.size<=m.toNat*j.τ.size:=by
        have:=zA j.τ.size (show q+1<=m.toNat from hq)
        rwa[z31,zx1] at this
       have he:((((madeCells j.zero.cells (m'.toNat*j.τ.size)).toList.take (m.toNat*j.τ.size)).drop (q*j.τ.size)).take j.τ.size)=j.zero.cells.toList:=by
        rw[z42,zF1,z91 (by omega)]
        apply zC1;intro k;by_cases hk:k<j.τ.size
        ·have hkz:k<j.zero.cells.size:=by omega
         have e2:(q*j.τ.size+k)%j.τ.size=k:=by rw[zX1,Nat.mul_add_mod,Nat.mod_eq_of_lt hk]
         rw[zp,if_pos hk,zB];simp only[madeCells,zG1,Array.getElem?_map,Array.getElem?_range]
         rw[if_pos (by omega)]
         simp only[zf1,c6,c3,e2];simp[hkz]
        ·rw[zp,if_neg hk,zl1 (by simp; omega)]
       rw[he];exact z2.mono (fun _ h=>h) (fun g hF=>hfr.blk _ (hr.mem.fb _ hF) id)
      refine⟨_,_,F,w',.inl ?_,hr.newA hd' c1 hfr hob (fun g hg=>by rw[qor hg]; exact z61 _),fun _ h=>h,fun _ h=>.inl h⟩
      simp only[execOp,hxd,hyd,r1,zl,zo,ze];rw[hw']
     ·cases h
   ·cases h
  ·cases h
 ·cases h
/-! ### append of zero values -/
def qrs(Γ:List TI)(st:St)(N d:Nat)(t t2:TypeId)(x y:Operand):Option MR:=match d with
 | 0=>none
 | _+1=>none
theorem qvm(hΓ:Tys P Γ){d:Nat}{t t2:TypeId}{x y:Operand}{r:MR}(h:qrs Γ st N d t t2 x y=some r)(hg:r.g=true):
  MOk P w0 M N F0 ops st (some d) (.call { callee:=.builtin .append,args:=#[x,y],argTypes:=#[t,t2] }) rty r:=by
 unfold qrs at h;split at h <;> cases h
/-! ### A shorter one: x[:hi] of an own array -/
def qww(Γ:List TI)(st:St)(N d:Nat)(t:TypeId)(x hi:Operand):Option MR:=match d with
 | 0=>none
 | _+1=>none
theorem qyu(hΓ:Tys P Γ){d:Nat}{t:TypeId}{x hi:Operand}{r:MR}(h:qww Γ st N d t x hi=some r)(hg:r.g=true):MOk P w0 M N F0 ops st (some d) (.slice t x none (some hi) none) rty r:=by
 unfold qww at h;split at h <;> cases h
/-! ### x[lo:hi:hi] -/
def isZ:Operand->Bool
 | .const (.int _ n)=>decide (n=0)
 | _=>false
theorem qxm{x:Operand}(h:isZ x=true):∃k,x=.const (.int k 0):=by
 unfold isZ at h;split at h
 ·rename_i k n; exact⟨k,by rw[zi h]⟩
 ·cases h
def evCut(Γ:List TI)(ow:List Nat)(st:St)(N d:Nat)(t:TypeId)(x:Operand)(lo:Option Operand)(hi mx:Operand):Option MR:=
 match st.ev x with
 | .v (.sl e) y=>bif Nat.blt d N&&qiL Γ t e.size then
   match bd st lo,(st.ev hi).int?,(st.ev mx).int? with
   | some l,some (k,h),some (_,m)=>some ⟨decide (h=m)&&cutG l (some (k,h)) (List.length (α:=e.den) y),qac x++(qpT lo++(qac hi++qac mx)),[.r d (bif memN ow d then .cut e (cutL (α:=e.den) l (some (k,h)) y) else .v (.sl e) (cutL (α:=e.den) l (some (k,h)) y))]⟩
   | _,_,_=>none
  else none
 | _=>none
def elTy(Γ:List TI)(t:TypeId):Option TypeId:=
 match look Γ t with
 | some i=>match i.desc with
  | .slice e=>some e
  | _=>none
 | none=>none
def qzz(Γ:List TI)(st:St)(N d:Nat)(t:TypeId)(x hi mx:Operand):Option MR:=
 match st.ev x,elTy Γ t with
 | .v (.sl e) _,some te=>bif Nat.blt d N&&!st.d (fresh st d 8 0)&&qiL Γ t e.size&&isZ hi&&isZ mx then
   some ⟨true,qac x++[.d (fresh st d 8 0)],[.d (fresh st d 8 0),.a (fresh st d 8 0) (some (.arr te e [])),.r d (.own (fresh st d 8 0))]⟩
  else none
 | _,_=>none
theorem qDv{F:Nat->Prop}{e:Ty}{x:List e.den}{ad:Addr}{cap L H:Nat}{w:World}(h1:0<cap->F ad.block)(h2:x.length<=cap)(h3:cap<=maxLen)
  (h4:∀(i:Nat) (y:e.den),x[i]? = some y->∃es,RdC F w e y es/\∀j v,es[j]? = some v->w.cell? (ad.add (i*e.size+j))=some v) (hL:L<=H) (hH:H<=x.length):
  RdC F w (.sl e) ((x.take H).drop L) [.slice (if H=L then some ad else some (ad.add (L*e.size))) (H-L) (H-L)]:=by
 have:=qCO (e:=e) (x:=x.take H) (ad:=ad) (cap:=H) (L:=L) (H:=H) (w:=w) (F:=F) (fun hc=>h1 (by omega)) (by simp; omega) (by omega) (fun i z hz=>h4 i z (by
  rw[zp] at hz;split at hz
  ·exact hz
  ·cases hz)) hL (by simp; omega)
 rwa[zF1,Nat.min_self] at this
theorem qBD{α:Type}{x:List α}{L H:Nat}(hH:H<=x.length):((x.take H).drop L).length=H-L:=by simp; omega
theorem qzA(hΓ:Tys P Γ){d:Nat}{t:TypeId}{x hi mx:Operand}{r:MR}(h:qzz Γ st N d t x hi mx=some r):MOk P w0 M N F0 ops st (some d) (.slice t x none (some hi) (some mx)) rty r:=by
 unfold qzz at h;split at h
 ·rename_i e y te hx hte;generalize hc:(Nat.blt d N&&!st.d (fresh st d 8 0)&&qiL Γ t e.size&&isZ hi&&isZ mx)=c at h;cases c with
  | false=>cases h
  | true=>
   simp only[za] at h;simp only[z8,zq] at hc;obtain⟨⟨⟨⟨c1,c2⟩,c3⟩,c4⟩,c5⟩:=hc;rw[zX] at c1;injection h with h; subst h
   obtain⟨et,hu,hsz⟩:=qf9 hΓ c3;obtain⟨k1,rfl⟩:=qxm c4;obtain⟨k2,rfl⟩:=qxm c5;intro pos af;refine RT.stepW rfl fun st' hag F ρ a w hr=>?_
   have hd':st'.d (fresh st d 8 0)=false:=by rw[<-c2]; exact(hag (.d _) (by simp)).symm
   have hxd:=hr.evx hag (fun _ h=>mem_l h) (x:=x)
   rw[hx] at hxd;generalize he:a.eval x=u at hxd;cases hxd with
   | v hv=>
    obtain⟨cs,⟨ad,cap,rfl,h2⟩,rfl⟩:=hv;refine⟨.slice ad 0 0,_,F,w,.inl ?_,hr.newA hd' c1 (Fr.refl w _) ⟨[],OwnR.nil w te e.size ad,fun q x hx=>by simp at hx⟩ (fun g hg=>by rw[qw9] at hg; cases hg),fun _ h=>h,fun _ h=>.inl h⟩
    have hb:=qrk (P:=P) (w:=w) (n:=List.length (α:=e.den) y) (c:=cap) (lo:=none) (k:=k1) (k':=k2) (h:=0) (by omega) (z61 _) (zu1 _) (fun _ _ h=>by cases h)
    simp only[valOf,zU1] at hb;have ek1:a.eval (.const (.int k1 0))=.int k1 0:=rfl;have ek2:a.eval (.const (.int k2 0))=.int k2 0:=rfl;simp only[execOp,he,ek1,ek2,mkV,Ty.agg,zb,zM1,zU1,zf1,Instr.sliceAt,Instr.slice,zl,zt hu,ze,hb,hsz,zo];simp[bdLo]
 ·cases h
theorem qBE(hΓ:Tys P Γ){ow:List Nat}{d:Nat}{t:TypeId}{x hi mx:Operand}{lo:Option Operand}{r:MR}(h:evCut Γ ow st N d t x lo hi mx=some r)(hg:r.g=true):MOk P w0 M N F0 ops st (some d) (.slice t x lo (some hi) (some mx)) rty r:=by
 unfold evCut at h;split at h
 ·rename_i e y hx;generalize hc:(Nat.blt d N&&qiL Γ t e.size)=c at h;cases c with
  | false=>cases h
  | true=>
   simp only[za] at h;simp only[z8] at hc;obtain⟨c1,c3⟩:=hc;rw[zX] at c1;split at h
   ·rename_i l k h' k' m hl hh hm;injection h with h; subst h
    simp only[z8,zj] at hg;obtain⟨hg1,hg2⟩:=hg;subst hg1;obtain⟨et,hu,hsz⟩:=qf9 hΓ c3;obtain⟨b1,b2,b3,b4,b5⟩:=qtN (α:=e.den) hg2;have b6:=b4 k h' rfl;simp only[bdHi] at b1 b2 b5;intro pos af;refine RT.stepW rfl fun st' hag F ρ a w hr=>?_
    have hxd:=hr.evx hag (fun _ h=>mem_l h) (x:=x)
    have hld:=qvf hr hag hl (fun _ h=>mem_r (mem_l h))
    have hhd:=(hr.evx hag (fun _ h=>mem_r (mem_r (mem_l h))) (x:=hi)).int hh
    have hmd:=(hr.evx hag (fun _ h=>mem_r (mem_r (mem_r h))) (x:=mx)).int hm
    rw[hx] at hxd;generalize he:a.eval x=u at hxd;cases hxd with
    | v hv=>
     obtain⟨cs,⟨ad,cap,rfl,h2⟩,rfl⟩:=hv;have hle:h'.toNat<=cap:=by
      cases ad with
      | none => have hn:List.length (α:=e.den) y=0:=by simp only at h2; rw[h2]; rfl
                omega
      | some ad=>exact zG b2 h2.2.1
     have hrd:RdC F w (.sl e) (cutL (α:=e.den) l (some (k,h')) y) [.slice (if h'.toNat=bdLo l then ad else ad.map (·.add (bdLo l*e.size))) (h'.toNat-bdLo l) (h'.toNat-bdLo l)]:=by
      rw[b5];cases ad with
      | none=>
       have hn:y=[]:=h2;subst hn;have h0:h'.toNat=0:=by have:=b2; simpa using this
       refine⟨none,h'.toNat-bdLo l,?_,?_⟩
       ·simp[h0]
       ·simp
      | some ad=>
       obtain⟨h3,h4,h5,h6⟩:=h2;have:=qDv h3 h4 h5 h6 b1 b2;simp only[zf1];exact this
     have hlen:List.length (α:=e.den) (cutL (α:=e.den) l (some (k,h')) y)=h'.toNat-bdLo l:=by rw[b5]; exact qBD b2
     refine⟨.slice (if h'.toNat=bdLo l then ad else ad.map (·.add (bdLo l*e.size))) (h'.toNat-bdLo l) (h'.toNat-bdLo l),ρ,F,w,.inl ?_,hr.setR c1 ?_,fun _ h=>h,fun _ h=>.inl h⟩
     ·have hb:=qrk (P:=P) (w:=w) (n:=List.length (α:=e.den) y) (c:=cap) (lo:=l) (k:=k) (k':=k') (h:=h') b6 b1 hle b3;simp only[execOp,he,hld,hhd,hmd,mkV,Ty.agg,zb,zM1,zf1,Instr.sliceAt,Instr.slice,zl,zt hu,ze,hb,hsz,zo]
     ·cases memN ow d with
      | true=>
       rw[<-hlen] at hrd ⊢;exact .cut hrd
      | false=>exact .v ⟨_,hrd,rfl⟩
   ·cases h
 ·cases h
/-! ### append to a slice that has no room -/
/-! ### append of a string's bytes -/
def qCP(Γ:List TI)(t:TypeId):Bool:=match look Γ t with
 | some i=>match i.desc with
  | .string=>true
  | _=>false
 | none=>false
def qrt(Γ:List TI)(st:St)(N d:Nat)(t t2:TypeId)(x y:Operand):Option MR:=match d with
 | 0=>none
 | _+1=>none
theorem qvn(hΓ:Tys P Γ){d:Nat}{t t2:TypeId}{x y:Operand}{r:MR}(h:qrt Γ st N d t t2 x y=some r)(hg:r.g=true):
  MOk P w0 M N F0 ops st (some d) (.call { callee:=.builtin .append,args:=#[x,y],argTypes:=#[t,t2] }) rty r:=by
 unfold qrt at h;split at h <;> cases h
/-! ### The bytes of an array as a string, without a copy: the array is gone -/
def qga(l:List Int):List UInt8:=l.map fun n=>UInt8.ofNat n.toNat
def qwx(st:St)(N d:Nat)(x:Operand):Option MR:=match d with
 | 0=>none
 | _+1=>none
theorem qyv{d:Nat}{t:TypeId}{x:Operand}{r:MR}(h:qwx st N d x=some r)(hg:r.g=true):
  MOk P w0 M N F0 ops st (some d) (.call { callee:=.builtin .unsafeSliceData,args:=#[x],argTypes:=#[t] }) rty r:=by
 unfold qwx at h;split at h <;> cases h
def qzB(Γ:List TI)(st:St)(N d:Nat)(pt:TypeId)(x y:Operand):Option MR:=match d with
 | 0=>none
 | _+1=>none
theorem qzC(hΓ:Tys P Γ){d:Nat}{pt it:TypeId}{x y:Operand}{r:MR}(h:qzB Γ st N d pt x y=some r)(hg:r.g=true):
  MOk P w0 M N F0 ops st (some d) (.call { callee:=.builtin .unsafeString,args:=#[x,y],argTypes:=#[pt,it] }) rty r:=by
 unfold qzB at h;split at h <;> cases h
def cutOf(e:Ty):SV->Option (List e.den)
 | .cut e' l=>if h:e'=e then some (h ▸ l) else none
 | _=>none
def qru(Γ:List TI)(st:St)(N d:Nat)(t t2:TypeId)(x y:Operand):Option MR:=
 match look Γ t with
 | some i=>match i.desc with
  | .slice e=>match look Γ e with
   | some j=>bif Nat.blt d N&&!st.d (fresh st d 8 0)&&Nat.beq j.size j.τ.size&&Nat.blt 0 j.size&&Nat.blt 0 j.bytes&&Nat.beq j.zero.cells.size j.size&&Nat.beq t t2 then
     match cutOf j.τ (st.ev x),qxl st j.τ (st.ev y) with
     | some l,some (l2,ks2)=>some ⟨Nat.blt 0 l2.length&&fits (l.length+l2.length) j.bytes,qac x++(qac y++(.d (fresh st d 8 0)::ks2)),[.d (fresh st d 8 0),.a (fresh st d 8 0) (some (.arr e j.τ (l++l2))),.r d (.own (fresh st d 8 0))]⟩
     | _,_=>none
    else none
   | none=>none
  | _=>none
 | none=>none
theorem qvo(hΓ:Tys P Γ){d:Nat}{t t2:TypeId}{x y:Operand}{r:MR}(h:qru Γ st N d t t2 x y=some r)(hg:r.g=true):
  MOk P w0 M N F0 ops st (some d) (.call { callee:=.builtin .append,args:=#[x,y],argTypes:=#[t,t2] }) rty r:=by
 unfold qru at h;split at h
 ·rename_i i hl;obtain⟨hi,rfl⟩:=qau hΓ hl;split at h
  ·rename_i e hd;split at h
   ·rename_i j hl2;obtain⟨hj,rfl⟩:=qau hΓ hl2;generalize hc:(Nat.blt d N&&!st.d (fresh st d 8 0)&&Nat.beq j.size j.τ.size&&Nat.blt 0 j.size&&Nat.blt 0 j.bytes&&Nat.beq j.zero.cells.size j.size&&Nat.beq i.t t2)=c at h;cases c with
    | false=>cases h
    | true=>
     simp only[za] at h;simp only[z8,zq] at hc;obtain⟨⟨⟨⟨⟨⟨c1,c2⟩,c3⟩,c4⟩,c5⟩,c6⟩,c7⟩:=hc;rw[zX] at c1 c4 c5;have c3:=zc c3;have c6:=zc c6;have c7:=zc c7;subst c7;split at h
     ·rename_i l l2 ks2 hold hnew;injection h with h; subst h
      simp only[z8,zX] at hg;have hfit:=zH hg.2;have hbig:l.length+l2.length<=140737488355328:=zG (zT1 _ c5) hfit;intro pos af;refine RT.stepW rfl fun st' hag F ρ a w hr=>?_
      have hd':st'.d (fresh st d 8 0)=false:=by rw[<-c2]; exact(hag (.d _) (by simp)).symm
      have hu:=hi.und;rw[hd] at hu;have hxd:=hr.evx hag (fun _ h=>mem_l h) (x:=x)
      have hyd:=hr.evx hag (fun _ h=>mem_r (mem_l h)) (x:=y)
      have hinfo:=hj.info;have hns:(∃c,a.eval y=.slice none 0 c/\l2=[])\/∃(ad:Addr) (c:Nat) (news:List Value),a.eval y=.slice (some ad) l2.length c/\news.length=l2.length*j.τ.size∧
        (∀q u,news[q]? = some u->w.cell? (ad.add q)=some u/\u.oneCell'=true)/\∀(q:Nat) (x:j.τ.den),l2[q]? = some x->RdC F w j.τ x ((news.drop (q*j.τ.size)).take j.τ.size):=by
       unfold qxl at hnew;split at hnew
       ·rename_i b hy;split at hnew
        ·rename_i A hA;split at hnew
         ·rename_i l' hl';injection hnew with hnew; injection hnew with e1 e2; subst e1 e2
          have hA':st'.a b=some A:=by rw[<-hA]; exact(hag (.a b) (by simp)).symm
          rw[Ob.as_spec hl'] at hA';rw[hy] at hyd;generalize a.eval y=u at hyd ⊢;cases hyd with
          | own hρ=>exact qq1 hr.mem hA' hρ
         ·cases hnew
        ·cases hnew
       ·split at hnew
        ·rename_i l' hl';injection hnew with hnew; injection hnew with e1 e2; subst e1 e2
         exact qoC (qtf hl' hyd)
        ·cases hnew
      have hos:∃(a0:Option Addr) (xs:List Value),a.eval x=.slice a0 l.length l.length/\xs.length=l.length*j.τ.size/\(∀q u,xs[q]? = some u->∃a,a0=some a/\w.cell? (a.add q)=some u)/\(a0=none->l.length=0)∧
        ∀(q:Nat) (x:j.τ.den),l[q]? = some x->RdC F w j.τ x ((xs.drop (q*j.τ.size)).take j.τ.size):=by
       unfold cutOf at hold;split at hold
       ·rename_i e' l' hx;split at hold
        ·rename_i he;subst he;injection hold with hold; subst hold
         rw[hx] at hxd;generalize a.eval x=u at hxd ⊢;cases hxd with
         | cut hv=>
          rename_i ad0;rcases qoC (F:=F) (w:=w) (e:=j.τ) (l:=l') ⟨_,hv,rfl⟩ with⟨c,q1,q2⟩ | ⟨ad,c,news,q1,q2,q3,q4⟩
          ·subst q2;simp only[mkV,Ty.agg,zb,zM1] at q1;injection q1 with q1 _ _
           exact⟨none,[],by rw[q1],by simp,fun q u h=>by simp at h,fun _=>rfl,fun q x h=>by simp at h⟩
          ·simp only[mkV,Ty.agg,zb,zM1] at q1;injection q1 with q1 _ _
           exact⟨some ad,news,by rw[q1],q2,fun q u h=>⟨ad,rfl,(q3 q u h).1⟩,(fun h=>by cases h),q4⟩
        ·cases hold
       ·cases hold
      obtain⟨a0,xs,o1,o2,o3,o4,o5⟩:=hos;rcases hns with⟨c,hy1,hy2⟩ | ⟨ad,c,news,hy1,hy2,hy3,hy4⟩
      ·exfalso;rw[hy2] at hg;exact absurd hg.1 (by simp)
      ·obtain⟨v',w',k1,k2,k3,k4⟩:=qvi (P:=P) (w:=w) i.t rty j.t j.size j.bytes j.zero hu hinfo c6 c4 a0 l.length xs (by rw[c3]; exact o2) o3 ad l2.length c news (by rw[hy2,c3]) (fun q u h=>(hy3 q u h).1) hg.1 o4 (by simp only[maxLen]; omega) hfit
       rw[<-hy1,<-o1] at k1;have hfr:Fr w (fun _=>False) w':=⟨k3.os,k3.tape,k3.output,k3.size,fun g hg _=>k3.block g hg (fun e=>by cases e)⟩
       have hc':∀g,F g->w'.heap[g]? = w.heap[g]?:=fun g hF=>hfr.blk _ (hr.mem.fb _ hF) id
       refine⟨v',_,F,w',.inl ?_,hr.newA hd' c1 hfr ⟨xs++news,by rw[zd,<-c3]; exact k2,fun q z hz=>qmE o2 (fun q z hz=>(o5 q z hz).mono (fun _ h=>h) hc') (fun q z hz=>(hy4 q z hz).mono (fun _ h=>h) hc') q z hz⟩ k4,fun _ h=>h,fun _ h=>.inl h⟩
       simp only[execOp,resolve,invoke,builtin,zl,zo,ze,zJ1,zh1,zc2,k1]
     ·cases h
   ·cases h
  ·cases h
 ·cases h
/-! ### An array is appended to, and what it was lives on: both are only read from now on -/
theorem Rel'.reR(h:Rel' P w0 M N F ρ st a w){t:Nat}{s:SV}(hv:Den P F w ρ s (a.tmps.getD t undef)):Rel' P w0 M N F ρ (st.put (.r t s)) a w:=by
 refine⟨h.fr,h.mem.congr rfl rfl rfl rfl,h.lo,fun t'=>?_,h.sz,h.df,h.pin⟩
 show Den P F w ρ (bif Nat.beq t' t then s else st.r t') _;cases hb:Nat.beq t' t with
 | true=>rw[zc hb]; exact hv
 | false=>exact h.regs t'
def qrv(Γ:List TI)(st:St)(N d:Nat)(t t2:TypeId)(tx:Nat)(y:Operand):Option MR:=match d with
 | 0=>none
 | _+1=>none
theorem qvp(hΓ:Tys P Γ){d tx:Nat}{t t2:TypeId}{y:Operand}{r:MR}(h:qrv Γ st N d t t2 tx y=some r)(hg:r.g=true):
  MOk P w0 M N F0 ops st (some d) (.call { callee:=.builtin .append,args:=#[.tmp tx,y],argTypes:=#[t,t2] }) rty r:=by
 unfold qrv at h;split at h <;> cases h
def evMem(Γ:List TI)(ow:List Nat)(st:St)(N:Nat)(dst:Option Nat):Op->Option MR
 | .box t x=>match dst with
  | some d=>bif memN ow (d+3000000) then qzv Γ st N d t x else evBox st N d t x
  | none=>none
 | .alloc t=>match dst with
  | some d=>bif memN ow (d+3000000) then qtO Γ st N d t else qwr Γ st N d t
  | none=>none
 | .store t x y=>match dst with
  | none=>qwt Γ st t x y
  | some _=>none
 | .buildSlice t len ⟨parts⟩=>match dst with
  | some d=>bif memN ow d then qtP Γ st N d t len parts else qrq Γ st N d t len parts
  | none=>none
 | .makeSlice t x y=>match dst with
  | some d=>qzx Γ st N d t x y
  | none=>none
 | .call ⟨.builtin .append,⟨[x,y]⟩,⟨[t,t2]⟩⟩=>match dst with
  | some d=>match st.ev x with
   | .cut _ _=>qru Γ st N d t t2 x y
   | _=>bif memN ow d then(match x with | .tmp tx=>qrv Γ st N d t t2 tx y | _=>none) else bif Nat.beq t t2 then qtQ Γ st N d t t2 x y else bif qCP Γ t2 then qrt Γ st N d t t2 x y else qrs Γ st N d t t2 x y
  | none=>none
 | .call ⟨.builtin .unsafeSliceData,⟨[x]⟩,⟨[_]⟩⟩=>match dst with
  | some d=>qwx st N d x
  | none=>none
 | .call ⟨.builtin .unsafeString,⟨[x,y]⟩,⟨[pt,_]⟩⟩=>match dst with
  | some d=>qzB Γ st N d pt x y
  | none=>none
 | .slice t x lo (some hi) (some mx)=>match dst with
  | some d=>bif lo.isNone&&isZ hi&&isZ mx then qzz Γ st N d t x hi mx else evCut Γ ow st N d t x lo hi mx
  | none=>none
 | .slice t x none (some hi) none=>match dst with
  | some d=>bif memN ow (d+5000000) then none else qww Γ st N d t x hi
  | none=>none
 | _=>none
theorem qxn(hΓ:Tys P Γ){ow:List Nat}{dst:Option Nat}{op:Op}{r:MR}(h:evMem Γ ow st N dst op=some r)(hg:r.g=true):MOk P w0 M N F0 ops st dst op rty r:=by
 unfold evMem at h;split at h
 all_goals first | (cases h; done) | (split at h <;> first | (cases h; done) | skip)
 ·generalize memN ow _=bo at h;cases bo with
  | true=>exact qzw hΓ h
  | false=>exact qBB h
 ·generalize memN ow _=bo at h;cases bo with
  | true=>exact qws hΓ h
  | false=>exact qys hΓ h
 ·exact qyt hΓ h
 ·rename_i d;cases ho:memN ow d with
  | true=>rw[ho] at h; exact qwu hΓ h
  | false=>rw[ho] at h; exact qvl hΓ h
 ·exact qzy hΓ h hg
 ·split at h
  ·exact qvo hΓ h hg
  ·generalize memN ow _=bo at h;cases bo with
   | true=>
    simp only[za] at h;split at h
    ·exact qvp hΓ h hg
    ·cases h
   | false=>
   simp only[zb] at h;cases hb:Nat.beq _ _ with
   | true=>rw[hb] at h; exact qwv hΓ h hg
   | false=>
    rw[hb] at h; simp only[zb] at h;generalize qCP Γ _=c at h;cases c with
    | true=>exact qvn hΓ h hg
    | false=>exact qvm hΓ h hg
 ·exact qyv h hg
 ·exact qzC hΓ h hg
 ·rename_i lo hi mx dst d;generalize hc:(lo.isNone&&isZ hi&&isZ mx)=c at h;cases c with
  | true=>
   simp only[z8] at hc;obtain rfl:lo=none:=by simpa using hc.1.1
   exact qzA hΓ h
  | false=>exact qBE hΓ h hg
 ·generalize memN ow _=bo at h;cases bo with
  | true=>cases h
  | false=>exact qyu hΓ h hg
end
end Go.Sq
