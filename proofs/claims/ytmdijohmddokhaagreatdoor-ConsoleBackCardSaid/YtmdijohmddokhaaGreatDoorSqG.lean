/- The second engine, part G: operations that read memory or make addresses. No condition. -/
import Derived.Test.YtmdijohmddokhaaGreatDoorSqF
namespace Go.Sq
open Go Go.RowKit
def qbq(st:St)(b:Nat):Nat->Nat->List SV
 | _,0=>[]
 | o,n+1=>st.c b o::qbq st b (o+1) n
theorem qdN{st:St}{b:Nat}:∀ {n o:Nat},(qbq st b o n).length=n
 | 0,_=>rfl
 | n+1,o=>by simp[qbq,qdN]
theorem qfc{st:St}{b:Nat}:∀ {n o j:Nat},j<n->(qbq st b o n)[j]? = some (st.c b (o+j))
 | 0,_,_,h=>by omega
 | n+1,o,0,_=>rfl
 | n+1,o,j+1,h=>by
  simp only[qbq,List.getElem?_cons_succ]
  rw[qfc (by omega),show o+1+j=o+(j+1) by omega]
theorem qxf{α:Type}{l:List α}{i:Nat}{d:α}(h:i<l.length):l[i]? = some (l.getD i d):=by
 rw[zh,zk h]; rfl
section
variable {P:Program} {w0:World} {M:Mod} {N:Nat} {st:St} {Γ:List TI} {rty:TypeId}
theorem qqY{F:Nat->Prop}{w:World}{ρ:Env}(h:MemOk P F w ρ st){b k:Nat}{tyb:TypeId}(hv:st.v b=some (tyb,k)){g:Nat}(hρ:ρ b=some (.pointer (some ⟨g,0,none⟩))){o:Nat}(ho:o<k):
  ∃u,w.cell? ⟨g,o,none⟩=some u/\Den P F w ρ (st.c b o) u/\u.oneCell'=true:=by
 obtain⟨g',arr,h1,h2,h3,h4⟩:=h.var b tyb k hv;rw[hρ] at h1; injection h1 with h1; injection h1 with h1; injection h1 with h1; injection h1 with h1; subst h1
 have ho':o<arr.size:=by omega
 have h5:=h4 o arr[o] (zt1 ho');exact⟨arr[o],by rw[cell_of_row w g o arr tyb (0,0) h2]; exact zt1 ho',h5⟩
def datAt(st:St)(b sz:Nat)(τ:Ty)(o:Nat):Option τ.den:=bif τ.agg then SV.dat τ (.agg (qbq st b o sz)) else SV.dat τ (st.c b o)
def pelL(st:St)(b k sz:Nat)(τ:Ty):Nat->Nat->Option (List τ.den)
 | _,0=>some []
 | o,n+1=>match datAt st b sz τ o,pelL st b k sz τ (o+k) n with
  | some x,some l=>some (x::l)
  | _,_=>none
theorem qtI{b k sz:Nat}{τ:Ty}:∀ {n o:Nat} {l:List τ.den},pelL st b k sz τ o n=some l->l.length=n/\∀i,i<n->datAt st b sz τ (o+i*k)=some (l.getD i τ.dflt)
 | 0,o,l,h=>by injection h with h; subst h; exact⟨rfl,fun i hi=>by omega⟩
 | n+1,o,l,h=>by
  simp only[pelL] at h;split at h
  ·rename_i x l' h1 h2;injection h with h; subst h
   obtain⟨k1,k2⟩:=qtI h2;refine⟨by simp[k1],fun i hi=>?_⟩
   cases i with
   | zero=>rw[zA2,zP1]; exact h1
   | succ i=>
    have:=k2 i (by omega)
    rw[show o+(i+1)*k=o+k+i*k by rw[zY1]; omega]
    exact this
  ·cases h
theorem qwh{F:Nat->Prop}{w:World}{ρ:Env}(h:MemOk P F w ρ st){b kv:Nat}{tyb:TypeId}(hv:st.v b=some (tyb,kv)){g:Nat}(hρ:ρ b=some (.pointer (some ⟨g,0,none⟩))){τ:Ty}{o:Nat}{x:τ.den}(hx:datAt st b τ.size τ o=some x)(ho:o+τ.size<=kv):
  ∃es,RdC F w τ x es/\∀j u,es[j]? = some u->w.cell? ⟨g,o+j,none⟩=some u:=by
 unfold datAt at hx;cases hg:τ.agg with
 | true=>
  rw[hg] at hx; simp only[za] at hx;have hall:∀j,j<τ.size->∃u,w.cell? ⟨g,o+j,none⟩=some u/\Den P F w ρ (st.c b (o+j)) u/\u.oneCell'=true:=fun j hj=>qqY h hv hρ (by omega)
  let vs:List Value:=(List.range τ.size).map fun j=>(w.cell? ⟨g,o+j,none⟩).getD undef
  have hvl:vs.length=τ.size:=by simp[vs]
  have hvs:∀j u,vs[j]? = some u->j<τ.size/\w.cell? ⟨g,o+j,none⟩=some u:=by
   intro j u hj;have hjm:j<τ.size:=by rw[<-hvl]; exact(zr.1 hj).1
   obtain⟨v',hc,_⟩:=hall j hjm;refine⟨hjm,?_⟩
   simp[vs,hjm] at hj;rw[hc] at hj ⊢; simpa using hj
  have hd:Den P F w ρ (.agg (qbq st b o τ.size)) (.agg vs.toArray):=.agg (by rw[hvl,qdN]) (fun j s v hs hv=>by
    obtain⟨hjm,hc⟩:=hvs j v hv;obtain⟨v',hcc,hv',_⟩:=hall j hjm;rw[hc] at hcc; injection hcc with hcc; subst hcc
    rw[qfc hjm] at hs; injection hs with hs; subst hs
    exact hv') (fun u hu=>by
    obtain⟨j,hj⟩:=zp1 hu;obtain⟨hjm,hc⟩:=hvs j u hj;obtain⟨v',hcc,_,h1⟩:=hall j hjm;rw[hc] at hcc; injection hcc with hcc; subst hcc; exact h1)
  obtain⟨es,e1,e2⟩:=qcR hx hd;have:es=vs:=by
   unfold mkV at e2;rw[hg] at e2;simp only[za] at e2;injection e2 with e2
   have:=congrArg Array.toList e2;simpa using this.symm
  subst this;exact⟨_,e1,fun j u hj=>(hvs j u hj).2⟩
 | false=>
  rw[hg] at hx; simp only[zb] at hx;have h1:τ.size=1:=by revert hg; cases τ <;> intro hg <;> first | rfl | cases hg
  obtain⟨u,c1,c2,_⟩:=qqY h hv hρ (o:=o) (by omega)
  refine⟨[u],qu7 (qcR hx c2) hg,fun j v hj=>?_⟩
  cases j with
  | zero=>simp at hj; subst hj; exact c1
  | succ j=>simp at hj
def qtg(Γ:List TI)(st:St)(t:TypeId)(x:Operand):Option VR:=
 match look Γ t with
 | none=>none
 | some i=>match st.ev x with
  | .ptr b o=>match st.v b with
   | none=>none
   | some (_,k)=>bif qbJ i.desc then
     bif Nat.ble (o+i.size) k then some ⟨true,qac x++(.v b::qhF b o i.size),.agg (qbq st b o i.size)⟩ else none
    else bif Nat.blt o k then some ⟨true,qac x++[.v b,.c b o],st.c b o⟩ else none
  | .sel τ y o=>bif (qbJ i.desc==i.τ.agg)&&Nat.beq i.size i.τ.size then match sub τ y o i.τ with
    | some z=>some ⟨true,qac x,.v i.τ z⟩
    | none=>none
   else none
  | .ael b k ix o=>match st.a b with
   | some (.arr _ e l)=>bif (qbJ i.desc==i.τ.agg)&&Nat.beq i.size i.τ.size&&Nat.beq k e.size then match sub e (l.getD ix e.dflt) o i.τ with
     | some z=>some ⟨true,qac x++[.a b],.v i.τ z⟩
     | none=>none
    else none
   | _=>none
  | .pel b n k ix o=>match st.v b with
   | some (_,kv)=>bif (qbJ i.desc==i.τ.agg)&&Nat.beq i.size i.τ.size&&Nat.ble (o+n*k) kv&&Nat.ble i.size k then match pelL st b k i.size i.τ o n with
     | some l=>some ⟨true,qac x++(.v b::qhF b o (n*k)),.v i.τ (l.getD ix i.τ.dflt)⟩
     | none=>none
    else none
   | none=>none
  | .aix b k ix o n m=>match st.a b with
   | some (.arr _ e l)=>bif (qbJ i.desc==i.τ.agg)&&Nat.beq i.size i.τ.size&&Nat.beq k e.size&&Nat.beq i.size 1 then match sub e (l.getD ix e.dflt) o (.arr n i.τ) with
     | some z=>some ⟨true,qac x++[.a b],.v i.τ (List.getD (α:=i.τ.den) z m i.τ.dflt)⟩
     | none=>none
    else none
   | _=>none
  | _=>none
theorem qox{F:Nat->Prop}{w:World}{ρ:Env}{i:TI}(hi:i.ok P)(ha:qbJ i.desc=i.τ.agg)(hs:i.size=i.τ.size){z:i.τ.den}{ad:Addr}{es:List Value}(hz:RdC F w i.τ z es)
  (hc:∀j u,es[j]? = some u->w.cell? (ad.add j)=some u):∃u,(loadVar i.t ad).run P w=.ok u w/\Den P F w ρ (.v i.τ z) u:=by
 have hl:=hz.size;refine⟨mkV i.τ es,?_,.v ⟨es,hz,rfl⟩⟩
 unfold mkV;cases hg:i.τ.agg with
 | true=>exact run_loadAgg' hi (ha.trans hg) (by rw[hl,hs]) hc
 | false=>
  have h1:i.τ.size=1:=by revert hg; cases i.τ <;> intro hg <;> first | rfl | cases hg
  rw[h1] at hl;obtain⟨c,rfl⟩:=zo1.1 hl;have:=hc 0 c rfl;rw[add_zero'] at this;exact qu9 hi (ha.trans hg) this
theorem qCN{F:Nat->Prop}{w:World}{ρ:Env}(h:MemOk P F w ρ st){b:Nat}{ty:TypeId}{e:Ty}{l:List e.den}(hA:st.a b=some (.arr ty e l)){g n cap:Nat}(hρ:ρ b=some (.slice (some ⟨g,0,none⟩) n cap)){i:Nat}(hi:i<n):
  l.length=n/\∃es,RdC F w e (l.getD i e.dflt) es/\∀j u,es[j]? = some u->w.cell? ⟨g,i*e.size+j,none⟩=some u:=by
 obtain⟨u,h1,xs,h2,h3⟩:=h.arr b _ hA;rw[hρ] at h1; injection h1 with h1; subst h1
 obtain⟨h4,h5⟩:=h2;rcases h5 with⟨ad,h5,_⟩ | ⟨g',cap',cur,h5,h7,h8,h9,h10,h11⟩
 ·injection h5 with _ h5 _; omega
 ·injection h5 with e1 e2 e3
  injection e1 with e1; injection e1 with e1; subst e1 e2 e3
  have hx:l[i]? = some (l.getD i e.dflt):=by rw[zh,zk hi]; rfl
  refine⟨rfl,_,h3 i _ hx,fun j u hj=>?_⟩
  rw[zp] at hj;split at hj
  ·rename_i hje;rw[zB,<-h11,zp] at hj;split at hj
   ·rw[cell_of_row w g _ cur ty (0,0) h7]; simpa using hj
   ·cases hj
  ·cases hj
theorem qvb(hΓ:Tys P Γ){t:TypeId}{x:Operand}{r:VR}(h:qtg Γ st t x=some r):VOk P w0 M N st (.load t x) rty r:=by
 unfold qtg at h;split at h
 ·cases h
 ·rename_i i hl;obtain⟨hi,rfl⟩:=qau hΓ hl;split at h
  ·rename_i b o hx;split at h
   ·cases h
   ·rename_i tyb k hv;cases ha:qbJ i.desc with
    | true=>
     rw[ha] at h; simp only[za] at h;cases hb:Nat.ble (o+i.size) k with
     | false=>rw[hb] at h; cases h
     | true=>
      rw[hb] at h; injection h with h; subst h
      have hle:=zH hb;intro st' hag F ρ a w hr dst pos af gd;have hxd:=hr.evx hag (fun _ h=>mem_l h) (x:=x)
      have hv':st'.v b=some (tyb,k):=by rw[<-hv]; exact(hag (.v b) (by simp)).symm
      have hc':∀j,j<i.size->st.c b (o+j)=st'.c b (o+j):=fun j hj=>hag (.c b (o+j)) (mem_r (zO _ (qgN hj)))
      rw[hx] at hxd;generalize he:a.eval x=u at hxd;cases hxd with
      | ptr hρ=>
       rename_i g;have hall:∀j,j<i.size->∃u,w.cell? ⟨g,o+j,none⟩=some u/\Den P F w ρ (st.c b (o+j)) u/\u.oneCell'=true:=by
        intro j hj;rw[hc' j hj]; exact qqY hr.mem hv' hρ (by omega)
       let vs:List Value:=(List.range i.size).map fun j=>(w.cell? ⟨g,o+j,none⟩).getD undef
       have hvl:vs.length=i.size:=by simp[vs]
       have hvs:∀j u,vs[j]? = some u->j<i.size/\w.cell? ⟨g,o+j,none⟩=some u:=by
        intro j u hj;have hjm:j<i.size:=by rw[<-hvl]; exact(zr.1 hj).1
        obtain⟨v',hc,_⟩:=hall j hjm;refine⟨hjm,?_⟩
        simp[vs,hjm] at hj;rw[hc] at hj ⊢; simpa using hj
       refine⟨.agg vs.toArray,?_,.agg (by rw[hvl,qdN]) (fun j s v hs hv=>?_) (fun u hu=>?_)⟩
       ·have hrn:=run_loadAgg' (w:=w) hi ha (ad:=⟨g,o,none⟩) (cs:=vs) hvl (fun j v hj=>by rw[zi1]; exact(hvs j v hj).2)
        simp[execOp,he,Instr.loadAt,Instr.sureAddr,hrn]
       ·obtain⟨hjm,hc⟩:=hvs j v hv;obtain⟨v',hcc,hv',_⟩:=hall j hjm;rw[hc] at hcc; injection hcc with hcc; subst hcc
        rw[qfc hjm] at hs; injection hs with hs; subst hs
        exact hv'
       ·obtain⟨j,hj⟩:=zp1 hu;obtain⟨hjm,hc⟩:=hvs j u hj;obtain⟨v',hcc,_,h1⟩:=hall j hjm;rw[hc] at hcc; injection hcc with hcc; subst hcc; exact h1
    | false=>
     rw[ha] at h; simp only[zb] at h;cases hb:Nat.blt o k with
     | false=>rw[hb] at h; cases h
     | true=>
      rw[hb] at h; injection h with h; subst h
      have hlt:o<k:=by rw[zX] at hb; exact hb
      intro st' hag F ρ a w hr dst pos af gd;have hxd:=hr.evx hag (fun _ h=>mem_l h) (x:=x)
      have hv':st'.v b=some (tyb,k):=by rw[<-hv]; exact(hag (.v b) (by simp)).symm
      have hc':st.c b o=st'.c b o:=hag (.c b o) (by simp)
      rw[hx] at hxd;generalize he:a.eval x=u at hxd;cases hxd with
      | ptr hρ=>
       obtain⟨v,hc,hd,_⟩:=qqY hr.mem hv' hρ hlt;exact⟨v,by simp[execOp,he,Instr.loadAt,Instr.sureAddr,qu9 hi ha hc],by show Den P F w ρ (st.c b o) v; rw[hc']; exact hd⟩
  ·rename_i τ y o hx;cases hcond:(qbJ i.desc==i.τ.agg)&&Nat.beq i.size i.τ.size with
   | false=>rw[hcond] at h; cases h
   | true=>
    rw[hcond] at h; simp only[za] at h;rw[z8] at hcond;have ha:qbJ i.desc=i.τ.agg:=by simpa using hcond.1
    have hs:=zc hcond.2;split at h
    ·rename_i z hz;injection h with h; subst h
     intro st' hag F ρ a w hr dst pos af gd;have hxd:=hr.evx hag (fun _ h=>h) (x:=x)
     rw[hx] at hxd;generalize he:a.eval x=u at hxd;cases hxd with
     | sel h1 h2 h3=>
      rename_i es ad;obtain⟨a1,a2⟩:=qlv hz h2;obtain⟨u,b1,b2⟩:=qox (ρ:=ρ) hi ha hs (ad:=ad.add o) a1 (fun j u hj=>by
       rw[zp] at hj;split at hj
       ·rw[zB] at hj; rw[qrg]; exact h3 _ _ hj
       ·cases hj)
      exact⟨u,by simp[execOp,he,Instr.loadAt,Instr.sureAddr,b1],b2⟩
    ·cases h
  ·rename_i b k ix o hx;split at h
   ·rename_i tya e l hA;cases hcond:(qbJ i.desc==i.τ.agg)&&Nat.beq i.size i.τ.size&&Nat.beq k e.size with
    | false=>rw[hcond] at h; cases h
    | true=>
     rw[hcond] at h; simp only[za] at h;rw[z8,z8] at hcond;have ha:qbJ i.desc=i.τ.agg:=by simpa using hcond.1.1
     have hs:=zc hcond.1.2;have hk:=zc hcond.2;subst hk;split at h
     ·rename_i z hz;injection h with h; subst h
      intro st' hag F ρ a w hr dst pos af gd;have hxd:=hr.evx hag (fun _ h=>mem_l h) (x:=x)
      have hA':st'.a b=some (.arr tya e l):=by rw[<-hA]; exact(hag (.a b) (by simp)).symm
      rw[hx] at hxd;generalize he:a.eval x=u at hxd;cases hxd with
      | ael hρ hin=>
       rename_i g n cap;obtain⟨_,es,c1,c2⟩:=qCN hr.mem hA' hρ hin;obtain⟨a1,a2⟩:=qlv hz c1;obtain⟨u,b1,b2⟩:=qox (ρ:=ρ) hi ha hs (ad:=⟨g,ix*e.size+o,none⟩) a1 (fun j u hj=>by
        rw[zp] at hj;split at hj
        ·rw[zB] at hj; rw[zi1,Nat.add_assoc]; exact c2 _ _ hj
        ·cases hj)
       exact⟨u,by simp[execOp,he,Instr.loadAt,Instr.sureAddr,b1],b2⟩
     ·cases h
   ·cases h
  ·rename_i b n k ix o hx;split at h
   ·rename_i tyb kv hv;cases hcond:(qbJ i.desc==i.τ.agg)&&Nat.beq i.size i.τ.size&&Nat.ble (o+n*k) kv&&Nat.ble i.size k with
    | false=>rw[hcond] at h; cases h
    | true=>
     rw[hcond] at h; simp only[za] at h;rw[z8,z8,z8] at hcond;have ha:qbJ i.desc=i.τ.agg:=by simpa using hcond.1.1.1
     have hs:=zc hcond.1.1.2;have hle:=zH hcond.1.2;have hsk:=zH hcond.2;split at h
     ·rename_i l hp;injection h with h; subst h
      intro st' hag F ρ a w hr dst pos af gd;have hxd:=hr.evx hag (fun _ h=>mem_l h) (x:=x)
      have hv':st'.v b=some (tyb,kv):=by rw[<-hv]; exact(hag (.v b) (by simp)).symm
      have hc':∀j,j<n*k->st.c b (o+j)=st'.c b (o+j):=fun j hj=>hag (.c b (o+j)) (mem_r (zO _ (qgN hj)))
      rw[hx] at hxd;generalize he:a.eval x=u at hxd;cases hxd with
      | pel hρ hin=>
       rename_i g;obtain⟨p1,p2⟩:=qtI hp;have hmul:ix*k+k<=n*k:=by rw[<-zY1]; exact zA k hin
       have hda:datAt st' b i.τ.size i.τ (o+ix*k)=some (l.getD ix i.τ.dflt):=by
        have h3:=p2 ix hin;rw[hs] at h3;rw[<-h3];unfold datAt;have e1:qbq st' b (o+ix*k) i.τ.size=qbq st b (o+ix*k) i.τ.size:=by
         apply zC1;intro q;by_cases hq:q<i.τ.size
         ·rw[qfc hq,qfc hq,show o+ix*k+q=o+(ix*k+q) by omega,hc' _ (by omega)]
         ·rw[zl1 (by rw[qdN]; omega),zl1 (by rw[qdN]; omega)]
        rw[e1];cases hg:i.τ.agg with
        | true=>rfl
        | false=>
         have h1:i.τ.size=1:=by revert hg; cases i.τ <;> intro hg <;> first | rfl | cases hg
         simp only[zb];rw[hc' (ix*k) (by omega)]
       obtain⟨es,c1,c2⟩:=qwh hr.mem hv' hρ hda (by omega)
       obtain⟨u,b1,b2⟩:=qox (ρ:=ρ) hi ha hs (ad:=⟨g,o+ix*k,none⟩) c1 (fun j u hj=>by rw[zi1]; exact c2 j u hj)
       exact⟨u,by simp[execOp,he,Instr.loadAt,Instr.sureAddr,b1],b2⟩
     ·cases h
   ·cases h
  ·rename_i b k ix o n m hx;split at h
   ·rename_i tya e l hA;cases hcond:(qbJ i.desc==i.τ.agg)&&Nat.beq i.size i.τ.size&&Nat.beq k e.size&&Nat.beq i.size 1 with
    | false=>rw[hcond] at h; cases h
    | true=>
     rw[hcond] at h; simp only[za] at h;rw[z8,z8,z8] at hcond;have ha:qbJ i.desc=i.τ.agg:=by simpa using hcond.1.1.1
     have hs:=zc hcond.1.1.2;have hk:=zc hcond.1.2;have h1s:=zc hcond.2;subst hk;split at h
     ·rename_i z hz;injection h with h; subst h
      intro st' hag F ρ a w hr dst pos af gd;have hxd:=hr.evx hag (fun _ h=>mem_l h) (x:=x)
      have hA':st'.a b=some (.arr tya e l):=by rw[<-hA]; exact(hag (.a b) (by simp)).symm
      rw[hx] at hxd;generalize he:a.eval x=u at hxd;cases hxd with
      | aix hρ hin hm=>
       rename_i g n' cap;obtain⟨_,es,c1,c2⟩:=qCN hr.mem hA' hρ hin;obtain⟨a1,a2⟩:=qlv hz c1;have hτ1:i.τ.size=1:=by omega
       obtain⟨g1,_⟩:=RdAr.get (fun _ _ h=>RdC.size h) i.τ.dflt a1 hm
       have hsz:(Ty.arr n i.τ).size=n:=by show n*i.τ.size=n; rw[hτ1,zJ2]
       obtain⟨u,b1,b2⟩:=qox (ρ:=ρ) hi ha hs (ad:=⟨g,ix*e.size+(o+m),none⟩) g1 (fun j u hj=>by
        rw[zp] at hj;split at hj
        ·rw[zB,zp] at hj;split at hj
         ·rw[zB] at hj;rw[zi1];have:=c2 _ _ hj;rw[hτ1,zJ2] at this;rw[show ix*e.size+(o+m)+j=ix*e.size+(o+(m+j)) by omega]; exact this
         ·cases hj
        ·cases hj)
       exact⟨u,by simp[execOp,he,Instr.loadAt,Instr.sureAddr,b1],b2⟩
     ·cases h
   ·cases h
  ·cases h
/-! ### Addresses -/
def evNil(st:St)(x:Operand):Option VR:=
 match st.ev x with
 | .ptr b o=>some ⟨true,qac x,.ptr b o⟩
 | .ael b k i o=>some ⟨true,qac x,.ael b k i o⟩
 | .pel b n k i o=>some ⟨true,qac x,.pel b n k i o⟩
 | .aix b k i o n m=>some ⟨true,qac x,.aix b k i o n m⟩
 | .sel τ y o=>some ⟨true,qac x,.sel τ y o⟩
 | _=>none
theorem qBy{x:Operand}{r:VR}(h:evNil st x=some r):VOk P w0 M N st (.nilCheck x) rty r:=by
 unfold evNil at h;split at h
 all_goals first | (cases h; done) | skip
 all_goals
  rename_i hx;injection h with h; subst h
  intro st' hag F ρ a w hr dst pos af gd;have hxd:=hr.evx hag (fun _ h=>h) (x:=x)
  rw[hx] at hxd;generalize he:a.eval x=u at hxd;refine⟨u,?_,hxd⟩
  cases hxd <;> simp[execOp,he]
def qpS(Γ:List TI)(t n:Nat):Option (Nat×TI):=
 match look Γ t with
 | some i=>match i.desc with
  | .struct fs=>match fs[n]? with
   | some f=>match look Γ f.type with
    | some j=>bif Nat.blt 0 j.size then some (f.offset,j) else none
    | none=>none
   | none=>none
  | _=>none
 | none=>none
theorem qj8(hΓ:Tys P Γ){t n off:Nat}{j:TI}(h:qpS Γ t n=some (off,j)){w:World}{a:Addr}:(Instr.fieldAt t (.pointer (some a)) n).run P w=.ok (.pointer (some (a.add off))) w:=by
 unfold qpS at h;split at h
 ·rename_i i hl;obtain⟨hi,rfl⟩:=qau hΓ hl;split at h
  ·rename_i fs hd;split at h
   ·rename_i f hf;split at h
    ·rename_i j' hl2;obtain⟨hj,hj2⟩:=qau hΓ hl2;cases hb:Nat.blt 0 j'.size with
     | false=>rw[hb] at h; cases h
     | true=>
      rw[hb] at h; injection h with h; injection h with e1 e2; subst e1 e2
      exact run_fieldAt' hi hd hf hj hj2 (by rw[zX] at hb; exact hb)
    ·cases h
   ·cases h
  ·cases h
 ·cases h
def qtJ(Γ:List TI)(st:St)(t:TypeId)(x:Operand)(n:Nat):Option VR:=
 match qpS Γ t n with
 | some (off,_)=>match st.ev x with
  | .ptr b o=>some ⟨true,qac x,.ptr b (o+off)⟩
  | .ael b k i o=>some ⟨true,qac x,.ael b k i (o+off)⟩
  | .sel τ y o=>some ⟨true,qac x,.sel τ y (o+off)⟩
  | .pel b n k i o=>some ⟨true,qac x,.pel b n k i (o+off)⟩
  | _=>none
 | none=>none
theorem qwi(hΓ:Tys P Γ){t:TypeId}{x:Operand}{n:Nat}{r:VR}(h:qtJ Γ st t x n=some r):VOk P w0 M N st (.fieldAddr t x n) rty r:=by
 unfold qtJ at h;split at h
 ·rename_i off j hf;split at h
  all_goals first | (cases h; done) | skip
  all_goals
   rename_i hx;injection h with h; subst h
   intro st' hag F ρ a w hr dst pos af gd;have hxd:=hr.evx hag (fun _ h=>h) (x:=x)
   rw[hx] at hxd;generalize he:a.eval x=u at hxd
  ·cases hxd with
   | ptr hρ=>exact⟨_,by simp only[execOp,he,zl,qj8 hΓ hf,ze,zo,zi1],.ptr hρ⟩
  ·cases hxd with
   | ael hρ hi=>exact⟨_,by simp only[execOp,he,zl,qj8 hΓ hf,ze,zo,zi1,Nat.add_assoc],.ael hρ hi⟩
  ·cases hxd with
   | sel h1 h2 h3=>exact⟨_,by simp only[execOp,he,zl,qj8 hΓ hf,ze,zo,qrg],.sel h1 h2 h3⟩
  ·cases hxd with
   | pel hρ hi=>rename_i bb nn kk ii oo g; exact⟨_,by simp only[execOp,he,zl,qj8 hΓ hf,ze,zo,zi1]; rfl,by rw[show oo+ii*kk+off=oo+off+ii*kk by omega]; exact .pel hρ hi⟩
 ·cases h
def inB(i:Int)(n:Nat):Bool:=decide (0<=i)&&decide (i<n)
def qqZ(Γ:List TI)(st:St)(t:TypeId)(x ix:Operand):Option VR:=
 match look Γ t,(st.ev ix).int? with
 | some i,some (_,m)=>match i.desc with
  | .slice e=>match look Γ e with
   | some j=>match st.ev x with
    | .v (.sl e') l=>bif Nat.beq j.size e'.size then some ⟨inB m (List.length (α:=e'.den) l),qac x++qac ix,.sel e' (List.getD (α:=e'.den) l m.toNat e'.dflt) 0⟩ else none
    | .own b=>match st.a b with
     | some (.arr _ e' l)=>bif Nat.beq j.size e'.size then some ⟨inB m l.length,qac x++(qac ix++[.a b]),.ael b e'.size m.toNat 0⟩ else none
     | _=>none
    | _=>none
   | none=>none
  | .array n e=>match look Γ e with
   | some j=>match st.ev x with
    | .ptr b o=>some ⟨inB m n,qac x++qac ix,bif isK ix then .ptr b (o+m.toNat*j.size) else .pel b n j.size m.toNat o⟩
    | .ael b k i' o=>some ⟨inB m n,qac x++qac ix,bif isK ix || !Nat.beq j.size 1 then .ael b k i' (o+m.toNat*j.size) else .aix b k i' o n m.toNat⟩
    | .sel τ y o=>some ⟨inB m n,qac x++qac ix,.sel τ y (o+m.toNat*j.size)⟩
    | _=>none
   | none=>none
  | _=>none
 | _,_=>none
theorem qlw{i j:TI}{n:Nat}{e:TypeId}(hi:i.ok P)(hd:i.desc=.array n e)(hj:j.ok P)(hje:j.t=e){ad:Addr}{kd:IntKind}{m:Int}(h0:0<=m)(h1:m<n){w:World}:
  (Instr.indexAt i.t (.pointer (some ad)) (.int kd m)).run P w=.ok (.pointer (some (ad.add (m.toNat*j.size)))) w:=by
 have hu:=hi.und;rw[hd] at hu;have hs:=run_sizeOf' (w:=w) hj;rw[hje] at hs;simp[Instr.indexAt,asIntOf,Instr.sureAddr,zt hu,h0,h1,hs]
theorem run_indexAt'{i j:TI}{e:TypeId}(hi:i.ok P)(hd:i.desc=.slice e)(hj:j.ok P)(hje:j.t=e){ad:Addr}{n c:Nat}{kd:IntKind}{m:Int}(h0:0<=m)(h1:m<n){w:World}:
  (Instr.indexAt i.t (.slice (some ad) n c) (.int kd m)).run P w=.ok (.pointer (some (ad.add (m.toNat*j.size)))) w:=by
 have hu:=hi.und;rw[hd] at hu;have hs:=run_sizeOf' (w:=w) hj;rw[hje] at hs;simp[Instr.indexAt,asIntOf,zt hu,h0,h1,hs]
theorem qae{i:Int}{n:Nat}:inB i n=true↔0<=i/\i<n:=by simp[inB]
theorem qri(hΓ:Tys P Γ){t:TypeId}{x ix:Operand}{r:VR}(h:qqZ Γ st t x ix=some r)(hg:r.g=true):VOk P w0 M N st (.indexAddr t x ix) rty r:=by
 unfold qqZ at h;split at h
 ·rename_i i k m hl hm;obtain⟨hi,rfl⟩:=qau hΓ hl;split at h
  ·rename_i e hd;split at h
   ·rename_i j hl2;obtain⟨hj,hje⟩:=qau hΓ hl2;split at h
    ·rename_i e' l hx;cases hb:Nat.beq j.size e'.size with
     | false=>rw[hb] at h; cases h
     | true=>
      rw[hb] at h; injection h with h; subst h
      have hs:=zc hb;obtain⟨g1,g2⟩:=qae.1 hg;intro st' hag F ρ a w hr dst pos af gd;have hxd:=hr.evx hag (fun _ h=>mem_l h) (x:=x)
      have hmd:=(hr.evx hag (fun _ h=>mem_r h) (x:=ix)).int hm
      rw[hx] at hxd;generalize he:a.eval x=u at hxd;cases hxd with
      | v hv=>
       obtain⟨cs,⟨ad,cap,rfl,h2⟩,rfl⟩:=hv;cases ad with
       | none=>simp only at h2; subst h2; simp at g2; omega
       | some ad=>
        obtain⟨h3,h4,h5,h6⟩:=h2;have hlt:m.toNat<List.length (α:=e'.den) l:=by omega
        obtain⟨es,h7,h8⟩:=h6 m.toNat _ (qxf (d:=e'.dflt) hlt);refine⟨.pointer (some (ad.add (m.toNat*j.size))),?_,?_⟩
        ·have:=run_indexAt' (w:=w) hi hd hj hje (ad:=ad) (c:=cap) (kd:=k) g1 g2;simp only[execOp,he,hmd,mkV,Ty.agg,zb,zM1,zl,this,ze,zo]
        ·rw[hs];have:=Den.sel (P:=P) (ρ:=ρ) (o:=0) (F:=F) (w:=w) (ad:=ad.add (m.toNat*e'.size)) (by rw[qls]; exact h3 (by omega)) h7 (fun j u hj=>by rw[qrg]; exact h8 j u hj)
         rwa[add_zero'] at this
    ·rename_i b hx;split at h
     ·rename_i tya e' l hA;cases hb:Nat.beq j.size e'.size with
      | false=>rw[hb] at h; cases h
      | true=>
       rw[hb] at h; injection h with h; subst h
       have hs:=zc hb;obtain⟨g1,g2⟩:=qae.1 hg;intro st' hag F ρ a w hr dst pos af gd;have hxd:=hr.evx hag (fun _ h=>mem_l h) (x:=x)
       have hmd:=(hr.evx hag (fun _ h=>mem_r (mem_l h)) (x:=ix)).int hm
       have hA':st'.a b=some (.arr tya e' l):=by rw[<-hA]; exact(hag (.a b) (by simp)).symm
       rw[hx] at hxd;generalize he:a.eval x=u at hxd;cases hxd with
       | own hρ=>
        obtain⟨u',c1,xs,c2,c3⟩:=hr.mem.arr b _ hA';rw[hρ] at c1; injection c1 with c1; subst c1
        rcases c2.2 with⟨_,_,hn⟩ | ⟨g,cap,cur,rfl,c4⟩
        ·omega
        ·refine⟨.pointer (some ⟨g,m.toNat*e'.size,none⟩),?_,?_⟩
         ·have:=run_indexAt' (w:=w) hi hd hj hje (ad:=⟨g,0,none⟩) (c:=cap+1) (kd:=k) g1 g2;rw[zi1,zY,hs] at this;simp only[execOp,he,hmd,zl,this,ze,zo]
         ·exact .ael hρ (by omega)
     ·cases h
    ·cases h
   ·cases h
  ·rename_i n e hd;split at h
   ·rename_i j hl2;obtain⟨hj,hje⟩:=qau hΓ hl2;split at h
    all_goals first | (cases h; done) | skip
    all_goals
     rename_i hx;injection h with h; subst h
     obtain⟨g1,g2⟩:=qae.1 hg;intro st' hag F ρ a w hr dst pos af gd;have hxd:=hr.evx hag (fun _ h=>mem_l h) (x:=x)
     have hmd:=(hr.evx hag (fun _ h=>mem_r h) (x:=ix)).int hm
     rw[hx] at hxd;generalize he:a.eval x=u at hxd
    ·cases hxd with
     | ptr hρ=>
      refine⟨_,by simp only[execOp,he,hmd,zl,qlw (w:=w) hi hd hj hje (kd:=k) g1 g2,ze,zo,zi1]; rfl,?_⟩
      cases isK ix with
      | true=>exact .ptr hρ
      | false=>exact .pel hρ (by omega)
    ·cases hxd with
     | ael hρ hi'=>
      refine⟨_,by simp only[execOp,he,hmd,zl,qlw (w:=w) hi hd hj hje (kd:=k) g1 g2,ze,zo,zi1,Nat.add_assoc]; rfl,?_⟩
      cases hK:isK ix || !Nat.beq j.size 1 with
      | true=>exact .ael hρ hi'
      | false=>
       rw[zZ1,Bool.not_eq_false'] at hK;have h1:=zc hK.2;rw[h1,zJ2];exact .aix hρ hi' (by omega)
    ·cases hxd with
     | sel h1 h2 h3=>exact⟨_,by simp only[execOp,he,hmd,zl,qlw (w:=w) hi hd hj hje (kd:=k) g1 g2,ze,zo,qrg],.sel h1 h2 h3⟩
   ·cases h
  ·cases h
 ·cases h
def qwj(Γ:List TI)(st:St)(t:TypeId)(x ix:Operand):Option VR:=
 match look Γ t with
 | some i=>match i.desc with
  | .string=>match(st.ev x).str?,(st.ev ix).int? with
   | some l,some (_,m)=>some ⟨inB m l.length,qac x++qac ix,.v (.int .u8) (Int.ofNat (l.getD m.toNat 0).toNat)⟩
   | _,_=>none
  | _=>none
 | none=>none
theorem qyn(hΓ:Tys P Γ){t:TypeId}{x ix:Operand}{r:VR}(h:qwj Γ st t x ix=some r)(hg:r.g=true):VOk P w0 M N st (.index t x ix) rty r:=by
 unfold qwj at h;split at h
 ·rename_i i hl;obtain⟨hi,rfl⟩:=qau hΓ hl;have hu:=hi.und;split at h
  ·rename_i hd;rw[hd] at hu;split at h
   ·rename_i l k m hx hm;injection h with h; subst h
    obtain⟨g1,g2⟩:=qae.1 hg;intro st' hag F ρ a w hr dst pos af gd;have hxd:=(hr.evx hag (fun _ h=>mem_l h) (x:=x)).str hx
    have hmd:=(hr.evx hag (fun _ h=>mem_r h) (x:=ix)).int hm
    have hlt:m.toNat<l.length:=by omega
    have hb:(⟨⟨l⟩⟩:ByteArray)[m.toNat]? = some (l.getD m.toNat 0):=by
     rw[zh,zk hlt,zo2];rw[getElem?_pos (⟨⟨l⟩⟩:ByteArray) m.toNat hlt]; rfl
    refine⟨.int .u8 (l.getD m.toNat 0).toNat,?_,.ofInt _ _⟩
    simp[execOp,hxd,hmd,Instr.index,asIntOf,zt hu,g1,hb]
   ·cases h
  ·cases h
 ·cases h
/-! ### Parts of values -/
def qrj(st:St)(x:Operand)(n:Nat):Option VR:=
 match st.ev x with
 | .tup ss=>match ss[n]? with
  | some s=>some ⟨true,qac x,s⟩
  | none=>none
 | _=>none
theorem qvc{x:Operand}{n:Nat}{r:VR}(h:qrj st x n=some r):VOk P w0 M N st (.extract x n) rty r:=by
 unfold qrj at h;split at h
 ·rename_i ss hx;split at h
  ·rename_i s hs;injection h with h; subst h
   intro st' hag F ρ a w hr dst pos af gd;have hxd:=hr.evx hag (fun _ h=>h) (x:=x)
   rw[hx] at hxd;generalize he:a.eval x=u at hxd;cases hxd with
   | tup hl hi=>
    rename_i vs;have hlt:n<vs.length:=by rw[<-hl]; exact(zr.1 hs).1
    refine⟨vs[n],?_,hi n s _ hs (zk hlt)⟩
    simp[execOp,Instr.extract,he,hlt]
  ·cases h
 ·cases h
def qwk(Γ:List TI)(st:St)(t:TypeId)(x:Operand)(n:Nat):Option VR:=
 match qpS Γ t n with
 | some (off,j)=>match st.ev x with
  | .agg cs=>bif qbJ j.desc then bif Nat.ble (off+j.size) cs.length then some ⟨true,qac x,.agg ((cs.drop off).take j.size)⟩ else none
   else match cs[off]? with
    | some s=>some ⟨true,qac x,s⟩
    | none=>none
  | .v τ y=>bif (qbJ j.desc==j.τ.agg)&&Nat.beq j.size j.τ.size&&τ.agg then match sub τ y off j.τ with
    | some z=>some ⟨true,qac x,.v j.τ z⟩
    | none=>none
   else none
  | _=>none
 | none=>none
theorem qvd(hΓ:Tys P Γ){t n off:Nat}{j:TI}(h:qpS Γ t n=some (off,j)):j.ok P/\∃fs f,P.underlying t=some (.struct fs)/\fs[n]? = some f/\f.offset=off/\f.type=j.t:=by
 unfold qpS at h;split at h
 ·rename_i i hl;obtain⟨hi,rfl⟩:=qau hΓ hl;split at h
  ·rename_i fs hd;split at h
   ·rename_i f hf;split at h
    ·rename_i j' hl2;obtain⟨hj,hj2⟩:=qau hΓ hl2;cases hb:Nat.blt 0 j'.size with
     | false=>rw[hb] at h; cases h
     | true=>
      rw[hb] at h; injection h with h; injection h with e1 e2; subst e1 e2
      exact⟨hj,fs,f,by rw[hi.und,hd],hf,rfl,hj2.symm⟩
    ·cases h
   ·cases h
  ·cases h
 ·cases h
theorem qoy{j:TI}(hj:j.ok P){cs:Array Value}{off:Nat}{w:World}(u:Value)(h:bif qbJ j.desc then u=.agg (cs.extract off (off+j.size)) else cs[off]? = some u):(part j.t cs off).run P w=.ok u w:=by
 have h1:=qrh (w:=w) hj;have h2:=run_sizeOf' (w:=w) hj;cases ha:qbJ j.desc with
 | true=>rw[ha] at h h1; simp only[za] at h; subst h; simp[part,h1,h2]
 | false=>rw[ha] at h h1; simp only[zb] at h; simp[part,h1,h]
theorem qyo(hΓ:Tys P Γ){t:TypeId}{x:Operand}{n:Nat}{r:VR}(h:qwk Γ st t x n=some r):VOk P w0 M N st (.field t x n) rty r:=by
 unfold qwk at h;split at h
 ·rename_i off j hf;obtain⟨hj,fs,f,hu,hfn,hoff,hft⟩:=qvd hΓ hf;have hrun:∀(w:World) (vs:Array Value) (u:Value),(part j.t vs off).run P w=.ok u w->(Instr.field t (.agg vs) n).run P w=.ok u w:=by
   intro w vs u hp;simp[Instr.field,zt hu,hfn,asAgg,hft,hoff,hp]
  split at h
  ·rename_i cs hx;cases ha:qbJ j.desc with
   | true=>
    rw[ha] at h; simp only[za] at h;cases hb:Nat.ble (off+j.size) cs.length with
    | false=>rw[hb] at h; cases h
    | true=>
     rw[hb] at h; injection h with h; subst h
     have hle:=zH hb;intro st' hag F ρ a w hr dst pos af gd;have hxd:=hr.evx hag (fun _ h=>h) (x:=x)
     rw[hx] at hxd;generalize he:a.eval x=u at hxd;cases hxd with
     | agg hl hi h1=>
      rename_i vs;refine⟨.agg ((vs.drop off).take j.size).toArray,?_,.agg (by simp[hl]) (fun i s u hs hu=>?_) (fun u hu=>h1 u (zF2 (zj2 hu)))⟩
      ·have hp:=hrun w vs.toArray (.agg ((vs.drop off).take j.size).toArray) (qoy hj _ (by rw[ha]; simp only[za]; congr 1; apply Array.ext'; simp))
       simp only[execOp,he,zl,hp,ze,zo]
      ·rw[zp] at hs hu;split at hs
       ·rename_i hlt;rw[if_pos hlt] at hu;rw[zB] at hs hu;exact hi _ s u hs hu
       ·cases hs
   | false=>
    rw[ha] at h; simp only[zb] at h;split at h
    ·rename_i s hs;injection h with h; subst h
     intro st' hag F ρ a w hr dst pos af gd;have hxd:=hr.evx hag (fun _ h=>h) (x:=x)
     rw[hx] at hxd;generalize he:a.eval x=u at hxd;cases hxd with
     | agg hl hi h1=>
      rename_i vs;have hlt:off<vs.length:=by rw[<-hl]; exact(zr.1 hs).1
      refine⟨vs[off],?_,hi off s _ hs (zk hlt)⟩
      have hp:=hrun w vs.toArray vs[off] (qoy hj _ (by rw[ha]; simp[hlt]))
      simp only[execOp,he,zl,hp,ze,zo]
    ·cases h
  ·rename_i τ y hx;cases hcond:(qbJ j.desc==j.τ.agg)&&Nat.beq j.size j.τ.size&&τ.agg with
   | false=>rw[hcond] at h; cases h
   | true=>
    rw[hcond] at h; simp only[za] at h;rw[z8,z8] at hcond;have ha:qbJ j.desc=j.τ.agg:=by simpa using hcond.1.1
    have hs:=zc hcond.1.2;split at h
    ·rename_i z hz;injection h with h; subst h
     intro st' hag F ρ a w hr dst pos af gd;have hxd:=hr.evx hag (fun _ h=>h) (x:=x)
     rw[hx] at hxd;generalize he:a.eval x=u at hxd;cases hxd with
     | v hv=>
      obtain⟨cs,h1,rfl⟩:=hv;obtain⟨a1,a2⟩:=qlv hz h1;have hmk:mkV τ cs=.agg cs.toArray:=by unfold mkV; rw[hcond.2]; rfl
      refine⟨mkV j.τ ((cs.drop off).take j.τ.size),?_,.v ⟨_,a1,rfl⟩⟩
      have hp:=hrun w cs.toArray (mkV j.τ ((cs.drop off).take j.τ.size)) (qoy hj _ (by
       rw[ha];cases hg:j.τ.agg with
       | true=>simp only[za,mkV,hg]; congr 1; apply Array.ext'; simp[hs]
       | false=>
        have h1':j.τ.size=1:=by revert hg; cases j.τ <;> intro hg <;> first | rfl | cases hg
        rw[h1'] at a2 ⊢;simp only[zb,mkV,hg];have hlt:off<cs.length:=by omega
        rw[ze1 hlt,List.take_succ_cons,zM1]; simp[hlt]))
      simp only[execOp,he,hmk,zl,hp,ze,zo]
    ·cases h
  ·cases h
 ·cases h
/-! ### Elements of an array that is a value -/
def arr2(e:Ty):Nat->Ty
 | 0=>e
 | n+1=>.pair e (arr2 e n)
def arrL(e:Ty):(n:Nat)->(arr2 e n).den->List e.den
 | 0,x=>[x]
 | n+1,x=>x.1::arrL e n x.2
theorem qve{F:Nat->Prop}{w:World}{e:Ty}:∀ {n:Nat} {x:(arr2 e n).den} {cs:List Value},RdC F w (arr2 e n) x cs->cs.length=(n+1)*e.size/\(arrL e n x).length=n+1∧
  ∀i,i<n+1->RdC F w e ((arrL e n x).getD i e.dflt) ((cs.drop (i*e.size)).take e.size)
 | 0,x,cs,h=>by
  have hl:=RdC.size (τ:=e) h;refine⟨by rw[hl]; simp,rfl,fun i hi=>?_⟩
  obtain rfl:i=0:=by omega
  rw[zA2,z32,zz (by omega)]
  exact h
 | n+1,x,cs,h=>by
  obtain⟨c1,c2,rfl,h1,h2⟩:=(show RdC F w (.pair e (arr2 e n)) x cs from h)
  have hl:=h1.size;obtain⟨k1,k2,k3⟩:=qve h2;refine⟨by rw[zd,hl,k1,zY1 (n+1)]; omega,by simp[arrL,k2],fun i hi=>?_⟩
  cases i with
  | zero=>rw[zA2,z32,zg1 (by omega),zz (by omega)]; exact h1
  | succ i=>
   have:=k3 i (by omega)
   rw[show(i+1)*e.size=c1.length+i*e.size by rw[zY1,hl]; omega,<-zE1,List.drop_left]
   exact this
theorem qzm{F:Nat->Prop}{w:World}{j:TI}(hj:j.ok P)(ha:qbJ j.desc=j.τ.agg)(hs:j.size=j.τ.size){y:j.τ.den}{cs:List Value}{off:Nat}(h:RdC F w j.τ y ((cs.drop off).take j.τ.size)):
  (part j.t cs.toArray off).run P w=.ok (mkV j.τ ((cs.drop off).take j.τ.size)) w:=by
 have hlen:=h.size;refine qoy hj _ ?_
 rw[ha];unfold mkV;cases hg:j.τ.agg with
 | true=>simp only[za]; congr 1; apply Array.ext'; simp[hs]
 | false=>
  have h1:j.τ.size=1:=by revert hg; cases j.τ <;> intro hg <;> first | rfl | cases hg
  rw[h1] at hlen ⊢;simp only[zb];cases hc:cs.drop off with
  | nil=>rw[hc] at hlen; simp at hlen
  | cons c r=>
   have:cs[off]? = some c:=by
    have h2:(cs.drop off)[0]? = some c:=by rw[hc]; rfl
    rw[zB] at h2; simpa using h2
   simp[this]
def qtK(Γ:List TI)(st:St)(t:TypeId)(x ix:Operand):Option VR:=
 match look Γ t,(st.ev ix).int? with
 | some i,some (_,m)=>match i.desc with
  | .array (n+2) et=>match look Γ et with
   | some j=>match(st.ev x).dat (arr2 j.τ (n+1)) with
    | some z=>bif (qbJ j.desc==j.τ.agg)&&Nat.beq j.size j.τ.size then some ⟨inB m (n+2),qac x++qac ix,.v j.τ (List.getD (arrL j.τ (n+1) z) m.toNat j.τ.dflt)⟩ else none
    | none=>none
   | none=>none
  | _=>none
 | _,_=>none
theorem qwl(hΓ:Tys P Γ){t:TypeId}{x ix:Operand}{r:VR}(h:qtK Γ st t x ix=some r)(hg:r.g=true):VOk P w0 M N st (.index t x ix) rty r:=by
 unfold qtK at h;split at h
 ·rename_i i k m hl hm;obtain⟨hi,rfl⟩:=qau hΓ hl;have hu:=hi.und;split at h
  ·rename_i n et hd;rw[hd] at hu;split at h
   ·rename_i j hl2;obtain⟨hj,hje⟩:=qau hΓ hl2;split at h
    ·rename_i z hz;cases hcond:(qbJ j.desc==j.τ.agg)&&Nat.beq j.size j.τ.size with
     | false=>rw[hcond] at h; cases h
     | true=>
      rw[hcond] at h; injection h with h; subst h
      rw[z8] at hcond;have ha:qbJ j.desc=j.τ.agg:=by simpa using hcond.1
      have hs:=zc hcond.2;obtain⟨g1,g2⟩:=qae.1 hg;intro st' hag F ρ a w hr dst pos af gd;have hxd:=qcR hz (hr.evx hag (fun _ h=>mem_l h) (x:=x))
      have hmd:=(hr.evx hag (fun _ h=>mem_r h) (x:=ix)).int hm
      obtain⟨cs,h1,h2⟩:=hxd;have h2':a.eval x=.agg cs.toArray:=h2;obtain⟨_,_,k3⟩:=qve h1;have hk:=k3 m.toNat (by omega)
      have hp:=qzm hj ha hs hk;refine⟨_,?_,.v ⟨_,hk,rfl⟩⟩
      have hsz:=run_sizeOf' (w:=w) hj;rw[hje] at hsz hp;have hp':(part et cs.toArray (m.toNat*j.size)).run P w=.ok (mkV j.τ ((cs.drop (m.toNat*j.τ.size)).take j.τ.size)) w:=by rw[hs]; exact hp
      have hrun:(Instr.index i.t (.agg cs.toArray) (.int k m)).run P w=.ok (mkV j.τ ((cs.drop (m.toNat*j.τ.size)).take j.τ.size)) w:=by
       simp only[Instr.index,asIntOf,zl,zo,ze,zt hu];have hc:0<=m/\m<((n+2:Nat):Int):=⟨g1,g2⟩;rw[if_pos hc];simp only[zl,hsz,ze,hp']
      simp only[execOp,h2',hmd,zl,hrun,ze,zo]
    ·cases h
   ·cases h
  ·cases h
 ·cases h
def qtL(Γ:List TI)(st:St)(t:TypeId)(x ix:Operand):Option VR:=
 match look Γ t,(st.ev ix).int? with
 | some i,some (_,m)=>match i.desc with
  | .array n et=>match look Γ et with
   | some j=>match(st.ev x).dat (.arr n j.τ) with
    | some z=>bif (qbJ j.desc==j.τ.agg)&&Nat.beq j.size j.τ.size then some ⟨inB m n,qac x++qac ix,.v j.τ (List.getD (α:=j.τ.den) z m.toNat j.τ.dflt)⟩ else none
    | none=>none
   | none=>none
  | _=>none
 | _,_=>none
theorem qwm(hΓ:Tys P Γ){t:TypeId}{x ix:Operand}{r:VR}(h:qtL Γ st t x ix=some r)(hg:r.g=true):VOk P w0 M N st (.index t x ix) rty r:=by
 unfold qtL at h;split at h
 ·rename_i i k m hl hm;obtain⟨hi,rfl⟩:=qau hΓ hl;have hu:=hi.und;split at h
  ·rename_i n et hd;rw[hd] at hu;split at h
   ·rename_i j hl2;obtain⟨hj,hje⟩:=qau hΓ hl2;split at h
    ·rename_i z hz;cases hcond:(qbJ j.desc==j.τ.agg)&&Nat.beq j.size j.τ.size with
     | false=>rw[hcond] at h; cases h
     | true=>
      rw[hcond] at h; injection h with h; subst h
      rw[z8] at hcond;have ha:qbJ j.desc=j.τ.agg:=by simpa using hcond.1
      have hs:=zc hcond.2;obtain⟨g1,g2⟩:=qae.1 hg;intro st' hag F ρ a w hr dst pos af gd;have hxd:=qcR hz (hr.evx hag (fun _ h=>mem_l h) (x:=x))
      have hmd:=(hr.evx hag (fun _ h=>mem_r h) (x:=ix)).int hm
      obtain⟨cs,h1,h2⟩:=hxd;have h2':a.eval x=.agg cs.toArray:=h2;obtain⟨hk,_⟩:=RdAr.get (fun _ _ h=>RdC.size h) j.τ.dflt h1 (show m.toNat<n by omega)
      have hcs:=(RdAr.size (fun _ _ h=>RdC.size h) h1).1
      have hfit:m.toNat*j.τ.size+j.τ.size<=cs.length:=by
       rw[hcs,<-zY1]; exact zA _ (show m.toNat+1<=n by omega)
      have hp:=qzm hj ha hs hk;refine⟨_,?_,.v ⟨_,hk,rfl⟩⟩
      have hsz:=run_sizeOf' (w:=w) hj;rw[hje] at hsz hp;have hp':(part et cs.toArray (m.toNat*j.size)).run P w=.ok (mkV j.τ ((cs.drop (m.toNat*j.τ.size)).take j.τ.size)) w:=by rw[hs]; exact hp
      have hrun:(Instr.index i.t (.agg cs.toArray) (.int k m)).run P w=.ok (mkV j.τ ((cs.drop (m.toNat*j.τ.size)).take j.τ.size)) w:=by
       simp only[Instr.index,asIntOf,zl,zo,ze,zt hu];have hc:0<=m/\m<(n:Int):=⟨g1,g2⟩;rw[if_pos hc];simp only[zl,hsz,ze,hp']
      simp only[execOp,h2',hmd,zl,hrun,ze,zo]
    ·cases h
   ·cases h
  ·cases h
 ·cases h
def qtM(Γ:List TI)(st:St)(t:TypeId)(x ix:Operand):Option VR:=
 match qwj Γ st t x ix with
 | some r=>some r
 | none=>match qtK Γ st t x ix with
  | some r=>some r
  | none=>qtL Γ st t x ix
theorem qwn(hΓ:Tys P Γ){t:TypeId}{x ix:Operand}{r:VR}(h:qtM Γ st t x ix=some r)(hg:r.g=true):VOk P w0 M N st (.index t x ix) rty r:=by
 unfold qtM at h;split at h
 ·rename_i r' hr; injection h with h; subst h; exact qyn hΓ hr hg
 ·split at h
  ·rename_i r' hr; injection h with h; subst h; exact qwl hΓ hr hg
  ·exact qwm hΓ h hg
end
end Go.Sq
