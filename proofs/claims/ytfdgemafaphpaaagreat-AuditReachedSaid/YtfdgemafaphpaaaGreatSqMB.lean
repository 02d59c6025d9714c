/- The second engine, part MB: walks through maps; bytes as a string. No condition. -/
import Derived.Test.YtfdgemafaphpaaaGreatSqMA
import Derived.Laws.BytesArg
namespace Go.Sq
open Go Go.RowKit Go.MapKept
section
variable {P:Program} {w0:World} {M:Mod} {N:Nat} {F0:Nat->Prop} {ops:Array Oper} {st:St} {Γ:List TI} {rty:TypeId}
variable {F:Nat->Prop} {ρ:Env} {a:Act} {w:World}
/-! ### A map that is only read: an entry, how many there are -/
theorem qDV{k v:Ty}{l:List (k.den×v.den)}{u:Value}(h:RdV F w (.map k v) l u):(u=.map none/\l=[])\/∃r es clock,u=.map (some r)/\F r/\w.heap[r]? = some (.map es clock)/\MapEs F w k v l es clock:=by
 obtain⟨cs,h1,rfl⟩:=h;rcases h1 with⟨rfl,h⟩ | ⟨r,es,clock,rfl,h1,h2,h3,h4⟩
 ·exact .inl ⟨rfl,h⟩
 ·exact .inr ⟨r,es,clock,rfl,h1,h2,h3,h4⟩
def qqL(Γ:List TI)(st:St)(t:TypeId)(x ix:Operand)(ok:Bool):Option VR:=match t with
 | 0=>none
 | _+1=>none
theorem quy(hΓ:Tys P Γ){t:TypeId}{x ix:Operand}{ok:Bool}{r:VR}(h:qqL Γ st t x ix ok=some r):VOk P w0 M N st (.lookup t x ix ok) rty r:=by
 unfold qqL at h;split at h <;> cases h
/-! ### A walk begins; the entry at which it stands -/
def qv0(Γ:List TI)(st:St)(N d:Nat)(t:TypeId)(x:Operand):Option MR:=
 match mapTy Γ t with
 | some (kj,ej)=>match(st.ev x).dat (.map kj.τ ej.τ) with
  | some l=>bif Nat.blt d N&&!st.d (fresh st d 8 0) then some ⟨true,qab x++[.d (fresh st d 8 0)],[.d (fresh st d 8 0),.a (fresh st d 8 0) (some (.iter false kj.τ ej.τ ((kj.τ.dflt,ej.τ.dflt)::l))),.r d (.own (fresh st d 8 0))]⟩ else none
  | none=>none
 | none=>none
theorem qA2(es:Array MapEntry):leftOf es #[]=es:=by
 unfold leftOf;exact Array.filter_eq_self.2 fun x _=>by simp
theorem qxU(hΓ:Tys P Γ){d:Nat}{t:TypeId}{x:Operand}{r:MR}(h:qv0 Γ st N d t x=some r):MOk P w0 M N F0 ops st (some d) (.range t x) rty r:=by
 unfold qv0 at h;split at h
 ·rename_i kj ej hm;obtain⟨m1,m2,m3,m4,m5⟩:=qjp hΓ hm;split at h
  ·rename_i l hx;cases hc:(Nat.blt d N&&!st.d (fresh st d 8 0)) with
   | false=>rw[hc] at h; cases h
   | true=>
    rw[hc] at h; injection h with h; subst h
    rw[z9,zS,zu] at hc;intro pos af;refine RT.stepW rfl fun st' hag F ρ a w hr=>?_
    have hxd:=qbZ hx (hr.evx hag (fun _ h=>mem_l h) (x:=x))
    have hd':st'.d (fresh st d 8 0)=false:=by rw[<-hc.2]; exact(hag (.d _) (by simp)).symm
    generalize he:a.eval x=u at hxd;rcases qDV hxd with⟨rfl,rfl⟩ | ⟨m,es,clock,rfl,hFm,h2,h3⟩
    ·have hob:ObOk F (w.alloc (.mapIter none 0 #[] 0)) (.iter false kj.τ ej.τ [(kj.τ.dflt,ej.τ.dflt)]) (.pointer (some ⟨w.heap.size,0,none⟩)):=
      ⟨w.heap.size,none,0,#[],0,rfl,(heap_alloc w _).1,.inl ⟨rfl,rfl⟩,fun h=>by cases h⟩
     have hrun:(Instr.range t (.map none)).run P w=.ok (.pointer (some ⟨w.heap.size,0,none⟩)) (w.alloc (.mapIter none 0 #[] 0)):=by
      simp[Instr.range,zq m1,Result.andThen,newObj,Sem.run]
     refine⟨_,_,F,w.alloc (.mapIter none 0 #[] 0),.inl ?_,hr.newA hd' hc.1 (qhW w _) hob (fun g hg=>by injection hg with hg; subst hg; exact zM _),fun _ h=>h,fun _ h=>.inl h⟩
     simp only[execOp,he,hrun,zj,zn,zf]
    ·have hmlt:=hr.mem.fb m hFm;have hfr:=qhW w (.mapIter (some m) clock #[] clock);have hFw:∀g,F g->(w.alloc (.mapIter (some m) clock #[] clock)).heap[g]? = w.heap[g]?:=fun g hF=>hfr.blk _ (hr.mem.fb _ hF) id
     have hob:ObOk F (w.alloc (.mapIter (some m) clock #[] clock)) (.iter false kj.τ ej.τ ((kj.τ.dflt,ej.τ.dflt)::l)) (.pointer (some ⟨w.heap.size,0,none⟩)):=by
      obtain⟨Z,z1,z2,z3⟩:=h3.ent;refine⟨w.heap.size,some m,clock,#[],clock,rfl,(heap_alloc w _).1,.inr ⟨m,es,clock,rfl,hFm,(hFw m hFm).trans h2,h3.st,rfl,rfl,⟨Z.map (·.2),?_,?_,fun i x e hx he=>?_⟩,fun s hs=>by simp at hs⟩,fun h=>by cases h⟩
      ·rw[qA2]; exact z2
      ·rw[<-z1]; simp
      ·have hx:(Z.map (·.1))[i]? = some x:=by rw[z1]; exact hx
       rw[zG,z31] at hx;rw[zG,z31] at he;obtain⟨z,hz,rfl⟩:=hx;obtain⟨z',hz',rfl⟩:=he;rw[hz] at hz'; injection hz' with hz'; subst hz'
       obtain⟨⟨c1,p1,p2⟩,⟨c2,q1,q2⟩⟩:=z3 z (zH hz);exact⟨⟨c1,p1.mono (fun _ h=>h) hFw,p2⟩,⟨c2,q1.mono (fun _ h=>h) hFw,q2⟩⟩
     have hrun:(Instr.range t (.map (some m))).run P w=.ok (.pointer (some ⟨w.heap.size,0,none⟩)) (w.alloc (.mapIter (some m) clock #[] clock)):=by
      simp[Instr.range,zq m1,zr1 h2,Result.andThen,newObj,Sem.run]
     refine⟨_,_,F,w.alloc (.mapIter (some m) clock #[] clock),.inl ?_,hr.newA hd' hc.1 hfr hob (fun g hg=>by injection hg with hg; subst hg; exact zM _),fun _ h=>h,fun _ h=>.inl h⟩
     simp only[execOp,he,hrun,zj,zn,zf]
  ·cases h
 ·cases h
def qv1(st:St)(x:Operand):Option VR:=
 match st.ev x with
 | .own b=>match st.a b with
  | some (.iter true k v c)=>some ⟨true,qab x++[.a b],.tup [.v k (c.headD (k.dflt,v.dflt)).1,.v v (c.headD (k.dflt,v.dflt)).2]⟩
  | _=>none
 | _=>none
theorem qxV{x:Operand}{r:VR}(h:qv1 st x=some r):VOk P w0 M N st (.entry x) rty r:=by
 unfold qv1 at h;split at h
 ·rename_i b hx;split at h
  ·rename_i k v c hA;injection h with h; subst h
   intro st' hag F ρ a w hr dst pos af gd;have hxd:=hr.evx hag (fun _ h=>mem_l h) (x:=x)
   rw[hx] at hxd;generalize he:a.eval x=u at hxd;cases hxd with
   | own hρ=>
    obtain⟨u',q1,q2⟩:=hr.mem.arr b _ (by rw[<-(hag (.a b) (by simp):st.a b=st'.a b)]; exact hA)
    rw[hρ] at q1; injection q1 with q1; subst q1
    obtain⟨it,mo,since,seen,last,rfl,h1,h2,h3⟩:=q2;obtain⟨n1,n2⟩:=h3 rfl;rcases h2 with⟨e,_⟩ | ⟨m,es,clock,rfl,hFm,hm,hst,rfl,rfl,_,hb⟩
    ·exact absurd e n1
    ·obtain⟨s,hs⟩:=zu1.1 n2;obtain⟨e,e1,e2,y,e3,e4,e5⟩:=hb s hs;have hseen:seen=seen.pop.push e.born:=by
      rw[e2];have hsz:0<seen.size:=by
       rcases zM1 seen.size with h0 | h0
       ·rw[Array.eq_empty_of_size_eq_zero h0] at hs; simp at hs
       ·exact h0
      have hb2:seen.back? = some (seen[seen.size-1]):=by rw[Array.back?_eq_getElem?,zm1 (by omega)]
      rw[hb2] at hs; injection hs with hs
      rw[<-hs];apply Array.ext
      ·simp; omega
      ·intro i h1 h2;rw[Array.getElem_push];split
       ·simp
       ·rename_i hi;have e9:i=seen.size-1:=by simp at h1 hi; omega
        subst e9; rfl
     rw[hseen] at h1;have hrun:=run_entry_at (P:=P) w it m _ seen.pop es _ e h1 hm e1 hst.2.1;refine⟨.tuple #[e.key,e.val],by simp only[execOp,he,hrun,zj,zn,zf],?_⟩
     have hy:c.headD (k.dflt,v.dflt)=y:=by
      cases c with
      | nil=>cases e3
      | cons z c=>injection e3
     rw[hy];refine .tup (vs:=[_,_]) rfl fun i s u hs hu=>?_
     match i with
     | 0=>simp at hs hu; subst hs hu; exact .v e4
     | 1=>simp at hs hu; subst hs hu; exact .v e5
     | i+2=>simp at hs
  ·cases h
 ·cases h
theorem qxW{b:Nat}{on:Bool}{k v:Ty}{c:List (k.den×v.den)}(hr:Rel' P w0 M N F ρ st a w)(hA:st.a b=some (.iter on k v c)){u:Value}(hρ:ρ b=some u)(ty:TypeId):
  (c.tail=[]/\(Instr.next u false ty).run P w=.ok (.tuple #[.bool false]) w)∨
  ∃(i:Nat) (x:k.den×v.den) (ku vu:Value) (w':World),c.tail[i]? = some x/\(Instr.next u false ty).run P w=.ok (.tuple #[.bool true,ku,vu]) w'/\RdV F w' k x.1 ku/\RdV F w' v x.2 vu∧
   Rel' P w0 M N F ρ (st.put (.a b (some (.iter true k v (x::c.tail.eraseIdx i))))) a w':=by
 obtain⟨u',q1,it,mo,since,seen,last,rfl,h1,h2,_⟩:=hr.mem.arr b _ hA;rw[hρ] at q1; injection q1 with q1; subst q1
 have hp0:st.present b:=.inr (by rw[hA]; simp)
 rcases h2 with⟨rfl,h2⟩ | ⟨m,es,clock,rfl,hFm,hm,hst,es1,es2,⟨L,l1,l2,l3⟩,_⟩
 ·exact .inl ⟨h2,by simp[Instr.next,getObj,Sem.run,h1,Result.andThen]⟩
 ·subst es1;have es2':=es2.symm;subst es2';have hold:∀x∈es.toList,x.born<since:=hst.1;rcases run_next_at (P:=P) w ty it m since since seen es since h1 hm hold (zM _) with⟨h0,hrun⟩ | ⟨e,he,w1,hw1,hrun⟩
  ·left;refine⟨zU ?_,hrun⟩
   rw[<-l2,l1.length_eq,zq1,h0]
  ·right;have heL:e∈L:=l1.mem_iff.2 he;obtain⟨i,hi⟩:=zG1 heL;have hil:=(zp.1 hi).1;have hic:i<c.tail.length:=by omega
   have hees:e∈es.toList:=by
    unfold leftOf at he;simp at he ⊢; exact he.1
   obtain⟨r1,r2⟩:=l3 i c.tail[i] e (zi hic) hi;have hrel1:Rel' P w0 M N F ρ st a w1:=by
    rcases hw1 with rfl | rfl
    ·exact hr
    ·exact hr.drew
   have hh1:∀g:Nat,w1.heap[g]? = w.heap[g]?:=by rcases hw1 with rfl | rfl <;> (intro g; rfl)
   have hsz:w1.heap.size=w.heap.size:=by rcases hw1 with rfl | rfl <;> rfl
   have hit1:w1.heap[it]? = some (.mapIter (some m) since seen since):=(hh1 it).trans h1;have hset:=heap_set (o':=.mapIter (some m) since (seen.push e.born) since) hit1;have hnF:∀g,F g->¬g=it:=fun g hF hg=>by subst hg; exact hr.mem.own b _ _ hp0 hρ rfl hF
   have hw':∀g,F g->(ChangeMaps.setBlock w1 it (.mapIter (some m) since (seen.push e.born) since)).heap[g]? = w.heap[g]?:=fun g hF=>(hset.2 g (hnF g hF)).trans (hh1 g)
   refine⟨i,c.tail[i],e.key,e.val,_,zi hic,hrun,?_,?_,?_⟩
   ·obtain⟨cs,p1,p2⟩:=r1; exact⟨cs,p1.mono (fun _ h=>h) hw',p2⟩
   ·obtain⟨cs,p1,p2⟩:=r2; exact⟨cs,p1.mono (fun _ h=>h) hw',p2⟩
   ·-- the walk is one entry further
    have hd0:=hrel1.dropA b;have hv0:st.v b=none:=by
     cases hx:st.v b with
     | none=>rfl
     | some x=>
      exfalso;obtain⟨g,arr,h1',h1b,_⟩:=hr.mem.var b x.1 x.2 hx;rw[hρ] at h1'; injection h1' with h1'; injection h1' with h1'; injection h1' with h1'; injection h1' with h1'; subst h1'
      rw[h1] at h1b; cases h1b
    have hpr:∀b',(st.put (.a b none)).present b'->b'≠b/\st.present b':=by
     intro b' hp;by_cases e:b'=b
     ·subst e;exfalso;rcases hp with hp | hp
      ·exact hp hv0
      ·refine hp ?_
       show(bif Nat.beq b' b' then none else st.a b')=none;simp
     ·refine⟨e,?_⟩
      rcases hp with hp | hp
      ·exact .inl hp
      ·refine .inr ?_
       have hp':(bif Nat.beq b' b then none else st.a b')≠none:=hp;rw[bq e] at hp'; exact hp'
    have hfr:Fr w1 (fun g=>g=it) (ChangeMaps.setBlock w1 it (.mapIter (some m) since (seen.push e.born) since)):=
     ⟨rfl,rfl,rfl,by simp[ChangeMaps.setBlock],fun g _ hg=>hset.2 g hg⟩
    have hdis:∀b' v g,(st.put (.a b none)).present b'->ρ b'=some v->blkOf v=some g->¬g=it:=by
     intro b' v g hp hv hg hgr;subst hgr;obtain⟨hne,hp'⟩:=hpr b' hp;exact hne (hr.mem.sep b' b v _ _ hp' hp0 hv hρ hg rfl)
    have h1r:=hd0.move (F':=F) hfr hdis hnF (fun _ h=>h) (fun _ h=>.inl h) (fun g hg=>zL1 (hrel1.mem.fb g hg) hfr.size) (fun g hg hlt'=>(hr.lo b _ g hp0 hρ (by subst hg; rfl)).resolve_right (by omega))
    have hob:ObOk F (ChangeMaps.setBlock w1 it (.mapIter (some m) since (seen.push e.born) since)) (.iter true k v (c.tail[i]::c.tail.eraseIdx i)) (.pointer (some ⟨it,0,none⟩)):=by
     refine⟨it,some m,since,seen.push e.born,since,rfl,hset.1,.inr ⟨m,es,since,rfl,hFm,(hw' m hFm).trans hm,hst,rfl,rfl,⟨L.eraseIdx i,?_,?_,fun q y z hy hz=>?_⟩,fun s hs=>?_⟩,fun _=>⟨by simp,by simp⟩⟩
     ·have hL:L=L.take i++e::L.drop (i+1):=by
       have:=(zp.1 hi).2;rw[<-this,<-zf1 hil,zh1]
      have hfil:(leftOf es (seen.push e.born)).toList=(leftOf es seen).toList.filter (fun z=>!(z.born==e.born)):=by
       unfold leftOf;rw[Array.toList_filter,Array.toList_filter,List.filter_filter];congr 1;funext z;simp[Array.contains_push,Bool.and_comm];rfl
      rw[hfil];refine List.Perm.trans ?_ (l1.filter _)
      rw[z72];have hnb:(L.map (·.born)).Nodup:=by
       have h5:((leftOf es seen).toList.map (·.born)).Nodup:=by
        unfold leftOf;rw[Array.toList_filter];exact hst.2.1.sublist (List.filter_sublist.map _)
       exact(l1.map _).nodup_iff.2 h5
      conv=>rhs; rw[hL]
      rw[List.filter_append,List.filter_cons];simp only[beq_self_eq_true,ze];have hd:∀z∈L.take i++L.drop (i+1),(!(z.born==e.born))=true:=by
       intro z hz;have h6:(L.map (·.born))=(L.take i).map (·.born)++e.born::(L.drop (i+1)).map (·.born):=by
        conv=>lhs; rw[hL]
        simp
       rw[h6] at hnb;have h7:=List.nodup_append.1 hnb;have h8:=List.nodup_cons.1 h7.2.1;have hne:z.born≠e.born:=by
        rcases zy.1 hz with hz | hz
        ·exact h7.2.2 _ (z61 hz) _ (by simp)
        ·intro heq;exact h8.1 (by rw[<-heq]; exact z61 hz)
       simpa using hne
      rw[List.filter_eq_self.2 (fun z hz=>hd z (zy.2 (.inl hz))),List.filter_eq_self.2 (fun z hz=>hd z (zy.2 (.inr hz)))]
      simp
     ·rw[List.tail_cons,List.length_eraseIdx,List.length_eraseIdx,if_pos hil,if_pos hic,l2]
     ·rw[List.tail_cons] at hy;rw[z13] at hy hz;have hboth:∃q':Nat,c.tail[q']? = some y/\L[q']? = some z:=by
       by_cases hq:q<i
       ·rw[if_pos hq] at hy hz; exact⟨q,hy,hz⟩
       ·rw[if_neg hq] at hy hz; exact⟨q+1,hy,hz⟩
      obtain⟨q',hy',hz'⟩:=hboth;obtain⟨⟨c1,p1,p2⟩,⟨c2,s1,s2⟩⟩:=l3 q' y z hy' hz';exact⟨⟨c1,p1.mono (fun _ h=>h) hw',p2⟩,⟨c2,s1.mono (fun _ h=>h) hw',s2⟩⟩
     ·rw[Array.back?_push] at hs; injection hs with hs
      obtain⟨c1,p1,p2⟩:=r1;obtain⟨c2,s1,s2⟩:=r2;exact⟨e,hees,hs,_,rfl,⟨c1,p1.mono (fun _ h=>h) hw',p2⟩,⟨c2,s1.mono (fun _ h=>h) hw',s2⟩⟩
    have h2r:=h1r.addA (b:=b) (A:=.iter true k v (c.tail[i]::c.tail.eraseIdx i)) hρ hv0 hob (fun g hg=>⟨fun b' v hne hp hv' hbk=>by
      obtain⟨_,hp'⟩:=hpr b' hp;exact hne (hr.mem.sep b' b v _ g hp' hp0 hv' hρ hbk hg),fun hF=>hr.mem.own b _ g hp0 hρ hg hF,hr.lo b _ g hp0 hρ hg⟩)
    have ee:(st.put (.a b none)).put (.a b (some (.iter true k v (c.tail[i]::c.tail.eraseIdx i))))=st.put (.a b (some (.iter true k v (c.tail[i]::c.tail.eraseIdx i)))):=by
     show({ st with a:=_ }:St)={ st with a:=_ }
     congr 1;funext x;show(bif Nat.beq x b then _ else bif Nat.beq x b then none else st.a x)=bif Nat.beq x b then _ else st.a x;cases Nat.beq x b <;> rfl
    rwa[ee] at h2r
/-! ### Bytes as a string -/
def qv2(Γ:List TI)(st:St)(src dst:TypeId)(x:Operand):Option VR:=
 match look Γ src,look Γ dst with
 | some i,some j=>match i.desc,j.desc with
  | .slice e,.string=>match look Γ e with
   | some q=>match q.desc with
    | .int .u8=>match st.ev x with
     | .v (.sl (.int .u8)) l=>some ⟨true,qab x,.v .str (qfc l)⟩
     | _=>none
    | _=>none
   | none=>none
  | _,_=>none
 | _,_=>none
theorem qqM:∀(l:List Int) (s:ByteArray),(l.foldl (fun r n=>r.push (UInt8.ofNat n.toNat)) s).data.toList=s.data.toList++qfc l
 | [],s=>by simp[qfc]
 | n::l,s=>by
  rw[List.foldl_cons,qqM l];simp[qfc,ByteArray.push]
theorem qzh{src dst e:TypeId}(hu:P.underlying src=some (.slice e))(hw:P.underlying e=some (.int .u8))(hv:P.underlying dst=some .string){l:List Int}{u:Value}(h:RdV F w (.sl (.int .u8)) l u):
  ∃b:ByteArray,b.data.toList=qfc l/\(convert src dst u).run P w=.ok (.string b) w:=by
 obtain⟨cs,⟨ad,cap,rfl,hc⟩,rfl⟩:=h;cases ad with
 | none=>
  have hl:l=[]:=hc;subst hl;exact⟨ByteArray.empty,rfl,run_convert_bytes_nil w src e hu hw _ _ dst hv⟩
 | some a0=>
  obtain⟨_,_,_,h4⟩:=hc;have hl:(loadCells a0 l.length).run P w=.ok (l.map (Value.int .u8)).toArray w:=by
   have:=zT2 (P:=P) w a0 (l.map (Value.int .u8)) (fun j v hj=>by
    have hjl:j<l.length:=by have:=(zp.1 hj).1; simpa using this
    have hlj:l[j]? = some l[j]:=zi hjl;rw[zG,hlj] at hj;simp only[zp1,zy1] at hj;obtain⟨es,e1,e2⟩:=h4 j l[j] hlj;have e1':es=[.int .u8 l[j]]:=e1;subst e1';have h9:=e2 0 _ rfl;rw[<-hj];have e3:j*(Ty.int .u8).size+0=j:=by simp[Ty.size]
    rw[e3] at h9;exact h9)
   simpa using this
  refine⟨_,?_,(run_convert_bytes_string w src dst e _ _ _ hu hw hv).trans (run_bytesToString w a0 _ _ l hl)⟩
  rw[qqM]; rfl
theorem qxX(hΓ:Tys P Γ){src dst:TypeId}{x:Operand}{r:VR}(h:qv2 Γ st src dst x=some r):VOk P w0 M N st (.convert src dst x) rty r:=by
 unfold qv2 at h;split at h
 ·rename_i i j hi hj;obtain⟨hi1,hi2⟩:=qax hΓ hi;obtain⟨hj1,hj2⟩:=qax hΓ hj;have hu:=hi1.und;have hv:=hj1.und;rw[hi2] at hu;rw[hj2] at hv;split at h
  ·rename_i e d1 d2;split at h
   ·rename_i q hq;obtain⟨hq1,hq2⟩:=qax hΓ hq;have hw:=hq1.und;rw[hq2] at hw;split at h
    ·rename_i d3;split at h
     ·rename_i l hx;injection h with h; subst h
      rw[d1] at hu;rw[d2] at hv;rw[d3] at hw;intro st' hag F ρ a w hr dst' pos af gd;have hxd:=hr.evx hag (fun _ h=>h) (x:=x)
      rw[hx] at hxd;generalize he:a.eval x=u at hxd;cases hxd with
      | v hd=>
       obtain⟨b,hb,hrun⟩:=qzh (dst:=dst) hu hw hv hd;refine⟨.string b,?_,.v ⟨[.string b],?_,rfl⟩⟩
       ·simp only[execOp,he,hrun,zj,zn,zf]
       ·show [Value.string b]=[Value.string ⟨⟨qfc l⟩⟩];rw[<-hb]
     ·cases h
    ·cases h
   ·cases h
  ·cases h
 ·cases h
/-! ### What of an own array begins at an element; a copy within an array -/
def qzi(Γ:List TI)(st:St)(t:TypeId)(x lo:Operand):Option VR:=
 match st.ev x,(st.ev lo).int? with
 | .own b,some (_,m)=>match st.a b with
  | some (.arr _ e l)=>bif qhX Γ t e.size then some ⟨decide (0<l.length)&&inR m l.length l.length,qab x++(qab lo++[.a b]),.rest b e.size m.toNat l.length⟩ else none
  | _=>none
 | _,_=>none
theorem qzj(hΓ:Tys P Γ){t:TypeId}{x lo:Operand}{r:VR}(h:qzi Γ st t x lo=some r)(hg:r.g=true):VOk P w0 M N st (.slice t x (some lo) none none) rty r:=by
 unfold qzi at h;split at h
 ·rename_i b k m hx hm;split at h
  ·rename_i te e l hA;cases hs:qhX Γ t e.size with
   | false=>rw[hs] at h; cases h
   | true=>
    rw[hs] at h; injection h with h; subst h
    obtain⟨et,hu,hsz⟩:=qfJ hΓ hs;simp only[inR,z9,zo] at hg;intro st' hag F ρ a w hr dst pos af gd;have hxd:=hr.evx hag (fun _ h=>mem_l h) (x:=x)
    have hlo:=(hr.evx hag (fun _ h=>mem_r (mem_l h)) (x:=lo)).int hm
    have hA':st'.a b=some (.arr te e l):=by rw[<-(hag (.a b) (by simp):st.a b=st'.a b)]; exact hA
    rw[hx] at hxd;generalize he:a.eval x=u at hxd;cases hxd with
    | own hρ=>
     obtain⟨u',q1,xs,q2,q3⟩:=hr.mem.arr b _ hA';rw[hρ] at q1; injection q1 with q1; subst q1
     rcases q2.2 with⟨ad,_,h3⟩ | ⟨g,cap,cur,rfl,h6,h7,h8,h9,h10⟩
     ·omega
     ·have hb:=qlN (P:=P) (w:=w) (isS:=true) (n:=l.length) (c:=cap+1) (lo:=some (k,m)) (hi:=none) (by simp only[bdLo,bdHi]; omega) (by simp only[bdHi]; omega) (fun _ _ e=>by injection e with e; injection e with _ e; subst e; omega) (fun _ _ e=>by cases e)
      have hd:Den P F w ρ (.rest b e.size m.toNat l.length) _:=.rest (k:=e.size) (lo:=m.toNat) hρ (by omega) h7
      refine⟨_,?_,hd⟩
      simp only[valOf,zp1,z12,bdLo,bdHi] at hb;simp only[execOp,he,hlo,zp1,z12,Instr.sliceAt,Instr.slice,zj,zq hu,zf,hb,hsz,zn];simp[Addr.add];split
      ·rfl
      ·congr 1;split
       ·rename_i h0; rw[h0]
       ·rfl
  ·cases h
 ·cases h
def evPre(Γ:List TI)(st:St)(t:TypeId)(x hi:Operand):Option VR:=
 match st.ev x,(st.ev hi).int? with
 | .own b,some (_,m)=>match st.a b with
  | some (.arr _ e l)=>bif qhX Γ t e.size then some ⟨decide (0<l.length)&&inR 0 m l.length,qab x++(qab hi++[.a b]),.pre b m.toNat l.length⟩ else none
  | _=>none
 | _,_=>none
theorem qA3(hΓ:Tys P Γ){t:TypeId}{x hi:Operand}{r:VR}(h:evPre Γ st t x hi=some r)(hg:r.g=true):VOk P w0 M N st (.slice t x none (some hi) none) rty r:=by
 unfold evPre at h;split at h
 ·rename_i b k m hx hm;split at h
  ·rename_i te e l hA;cases hs:qhX Γ t e.size with
   | false=>rw[hs] at h; cases h
   | true=>
    rw[hs] at h; injection h with h; subst h
    obtain⟨et,hu,hsz⟩:=qfJ hΓ hs;simp only[inR,z9,zo] at hg;intro st' hag F ρ a w hr dst pos af gd;have hxd:=hr.evx hag (fun _ h=>mem_l h) (x:=x)
    have hhi:=(hr.evx hag (fun _ h=>mem_r (mem_l h)) (x:=hi)).int hm
    have hA':st'.a b=some (.arr te e l):=by rw[<-(hag (.a b) (by simp):st.a b=st'.a b)]; exact hA
    rw[hx] at hxd;generalize he:a.eval x=u at hxd;cases hxd with
    | own hρ=>
     obtain⟨u',q1,xs,q2,q3⟩:=hr.mem.arr b _ hA';rw[hρ] at q1; injection q1 with q1; subst q1
     rcases q2.2 with⟨ad,_,h3⟩ | ⟨g,cap,cur,rfl,h6,h7,h8,h9,h10⟩
     ·omega
     ·have hb:=qlN (P:=P) (w:=w) (isS:=true) (n:=l.length) (c:=cap+1) (lo:=none) (hi:=some (k,m)) (by simp only[bdLo,bdHi]; omega) (by simp only[bdHi]; omega) (fun _ _ e=>by cases e) (fun _ _ e=>by injection e with e; injection e with _ e; subst e; omega)
      have hd:Den P F w ρ (.pre b m.toNat l.length) _:=.pre hρ (by omega)
      refine⟨_,?_,hd⟩
      simp only[valOf,zp1,z12,bdLo,bdHi] at hb;simp only[execOp,he,hhi,zp1,z12,Instr.sliceAt,Instr.slice,zj,zq hu,zf,hb,hsz,zn];simp[Addr.add]
  ·cases h
 ·cases h
theorem Rel'.rowSet{b g n cap:Nat}{tya:TypeId}{e:Ty}{l l':List e.den}{cur:Array Value}{cs:Array Value}(h:Rel' P w0 M N F ρ st a w)(hA:st.a b=some (.arr tya e l))(hρ:ρ b=some (.slice (some ⟨g,0,none⟩) n (cap+1)))
  (hb:w.heap[g]? = some (.cells cur tya (0,0))) (hob:ObOk F (w.setRow g cs) (.arr tya e l') (.slice (some ⟨g,0,none⟩) n (cap+1))):Rel' P w0 M N F ρ (st.put (.a b (some (.arr tya e l')))) a (w.setRow g cs):=by
 have hp0:st.present b:=.inr (by rw[hA]; simp)
 have hd0:=h.dropA b;have hv0:st.v b=none:=by
  cases hx:st.v b with
  | none=>rfl
  | some x=>
   exfalso;obtain⟨g,arr,h1,_⟩:=h.mem.var b x.1 x.2 hx;rw[hρ] at h1; injection h1 with h1; cases h1
 have hfr:Fr w (fun x=>x=g) (w.setRow g cs):=⟨rfl,rfl,rfl,by simp,fun g' _ hne=>zl2 w g g' _ (fun e=>hne e)⟩
 have hpr:∀b',(st.put (.a b none)).present b'->b'≠b/\st.present b':=by
  intro b' hp;by_cases e:b'=b
  ·subst e;exfalso;rcases hp with hp | hp
   ·exact hp hv0
   ·refine hp ?_
    show(bif Nat.beq b' b' then none else st.a b')=none;simp
  ·refine⟨e,?_⟩
   rcases hp with hp | hp
   ·exact .inl hp
   ·refine .inr ?_
    have hp':(bif Nat.beq b' b then none else st.a b')≠none:=hp;rw[bq e] at hp'; exact hp'
 have hdis:∀b' v x,(st.put (.a b none)).present b'->ρ b'=some v->blkOf v=some x->¬x=g:=by
  intro b' v x hp hv hg hgr;subst hgr;obtain⟨hne,hp'⟩:=hpr b' hp;exact hne (h.mem.sep b' b v _ x hp' hp0 hv hρ hg rfl)
 have hnF:∀x,F x->¬x=g:=fun x hF hg=>by subst hg; exact h.mem.own b _ x hp0 hρ rfl hF
 have h1:=hd0.move (F':=F) hfr hdis hnF (fun _ h=>h) (fun _ h=>.inl h) (fun x hx=>zL1 (h.mem.fb x hx) hfr.size) (fun x hx hlt'=>(h.lo b _ x hp0 hρ (by subst hx; rfl)).resolve_right (by omega))
 have h2:=h1.addA (b:=b) (A:=.arr tya e l') hρ hv0 hob (fun x hg=>⟨fun b' v hne hp hv' hbk=>by
   obtain⟨_,hp'⟩:=hpr b' hp;exact hne (h.mem.sep b' b v _ x hp' hp0 hv' hρ hbk hg),fun hF=>h.mem.own b _ x hp0 hρ hg hF,h.lo b _ x hp0 hρ hg⟩)
 have e:(st.put (.a b none)).put (.a b (some (.arr tya e l')))=st.put (.a b (some (.arr tya e l'))):=by
  show({ st with a:=_ }:St)={ st with a:=_ }
  congr 1;funext x;show(bif Nat.beq x b then _ else bif Nat.beq x b then none else st.a x)=bif Nat.beq x b then _ else st.a x;cases Nat.beq x b <;> rfl
 rwa[e] at h2
def dstOk(N:Nat):Option Nat->Bool
 | some d=>Nat.blt d N
 | none=>true
def dstWr(s:SV):Option Nat->List Wr
 | some d=>[.r d s]
 | none=>[]
def qzk(Γ:List TI)(st:St)(N:Nat)(dst:Option Nat)(t:TypeId)(x y:Operand):Option MR:=match t with
 | 0=>none
 | _+1=>none
theorem qA4{b k lo n:Nat}{u:Value}(h:Den P F w ρ (.rest b k lo n) u):∃g cap,ρ b=some (.slice (some ⟨g,0,none⟩) n cap)/\lo<=n/\n<=cap/\u=.slice (if cap=lo then some ⟨g,0,none⟩ else some ⟨g,lo*k,none⟩) (n-lo) (cap-lo):=by
 cases h with
 | rest h h1 h2=>exact⟨_,_,h,h1,h2,rfl⟩
theorem qm4{i n K q:Nat}(h:i<n)(hq:q<K):i*K+q<n*K:=by
 have:=zB K (show i+1<=n from h)
 rw[z71,zH1] at this; omega
theorem qqN{i n K q:Nat}(hq:q<K):n*K<=i*K+q↔n<=i:=by
 constructor
 ·intro h;refine Nat.le_of_not_lt fun hlt=>?_
  have:=qm4 hlt hq; omega
 ·intro h;have:=zB K h; omega
theorem qzl(hΓ:Tys P Γ){dst:Option Nat}{t t2:TypeId}{x y:Operand}{r:MR}(h:qzk Γ st N dst t x y=some r)(hg:r.g=true):MOk P w0 M N F0 ops st dst (.call { callee:=.builtin .copy,args:=#[x,y],argTypes:=#[t,t2] }) rty r:=by
 unfold qzk at h;split at h <;> cases h
def cpyD{A:Type}(l:List A)(lo:Nat)(y:List A):List A:=l.take lo++(y.take (l.length-lo)++l.drop (lo+min y.length (l.length-lo)))
theorem qtd{A:Type}(l:List A){lo:Nat}(y:List A)(h:lo<=l.length):(cpyD l lo y).length=l.length:=by
 unfold cpyD;simp only[zd,zk,zY];omega
theorem qte{A:Type}(l:List A){lo:Nat}(y:List A)(h:lo<=l.length)(i:Nat):(cpyD l lo y)[i]? = if lo<=i/\i<lo+min y.length (l.length-lo) then y[i-lo]? else l[i]?:=by
 unfold cpyD;by_cases h1:i<lo
 ·rw[zQ (by rw[zk]; omega),zw,if_pos h1,if_neg (by omega)]
 ·rw[zL (by rw[zk]; omega),zk,zg1 h]
  by_cases h2:i<lo+min y.length (l.length-lo)
  ·rw[zQ (by rw[zk]; omega),zw,if_pos (by omega),if_pos ⟨by omega,h2⟩]
  ·rw[zL (by rw[zk]; omega),zC,if_neg (by omega)]
   congr 1;rw[zk]; omega
theorem qxY{b g cap lo:Nat}{te t t2 et:TypeId}{e:Ty}{l y:List e.den}{u sv:Value}(hr:Rel' P w0 M N F ρ st a w)(hA:st.a b=some (.arr te e l))(hρ:ρ b=some (.slice (some ⟨g,0,none⟩) l.length cap))(g3:0<l.length)(p1:lo<=l.length)(c3:0<e.size)
  (hu:P.underlying t=some (.slice et)) (hsz:∀w:World,(Go.sizeOf et).run P w=.ok e.size w)
  (hdst:∃ad c,u=.slice (some ad) (l.length-lo) c/\(min y.length (l.length-lo)≠0->ad=⟨g,lo*e.size,none⟩))
  (hsrc:(∃c,sv=.slice none 0 c/\y=[])\/∃(ad:Addr) (c:Nat) (news:List Value),sv=.slice (some ad) y.length c/\news.length=y.length*e.size∧
   (∀q u,news[q]? = some u->w.cell? (ad.add q)=some u/\u.oneCell'=true)/\∀(q:Nat) (x:e.den),y[q]? = some x->RdC F w e x ((news.drop (q*e.size)).take e.size)):
  ∃w',(Builtin.copy_ #[t,t2] rty #[u,sv]).run P w=.ok (.int .i64 (Int.ofNat (min y.length (l.length-lo)))) w'/\Rel' P w0 M N F ρ (st.put (.a b (some (.arr te e (cpyD l lo y))))) a w':=by
 obtain⟨u',q1,xs,q2,q3⟩:=hr.mem.arr b _ hA;rw[hρ] at q1; injection q1 with q1
 rcases q2.2 with⟨ad,h3,h4⟩ | ⟨g0,cap0,cur,h5,h6,h7,h8,h9,h10⟩
 ·omega
 ·rw[<-q1] at h5;injection h5 with h5a h5b h5c
  injection h5a with h5a; injection h5a with h5a
  rw[<-h5a] at h6;have hxs:=q2.1;obtain⟨K,hK⟩:∃K,e.size=K:=⟨_,rfl⟩;obtain⟨m,hme⟩:∃m,min y.length (l.length-lo)=m:=⟨_,rfl⟩;have hm:m<=l.length-lo/\m<=y.length:=by omega
  -- the cells that come
  obtain⟨news,hnl,hlen,hfc,hone,hel⟩:∃news:List Value,news.length=m*e.size/\(Builtin.lenOf sv).run P w=.ok y.length w/\(Builtin.firstCells e.size m sv).run P w=.ok news.toArray w/\(∀v∈news,v.oneCell'=true)∧
    ∀(q:Nat) (x:e.den),q<m->y[q]? = some x->RdC F w e x ((news.drop (q*e.size)).take e.size):=by
   rcases hsrc with⟨c,rfl,rfl⟩ | ⟨ad,c,news,rfl,n1,n2,n3⟩
   ·have hm0:m=0:=by have:=hm.2; simpa using this
    exact⟨[],by simp[hm0],by simp[Builtin.lenOf],by simp[Builtin.firstCells],by simp,fun q x hq=>by omega⟩
   ·have hmy:m*e.size<=y.length*e.size:=zB _ hm.2;have hnt:(news.take (m*e.size)).length=m*e.size:=by rw[zk,n1]; omega
    refine⟨news.take (m*e.size),hnt,by simp[Builtin.lenOf],?_,fun v hv=>?_,fun q x hq hx=>?_⟩
    ·have hl:=zT2 (P:=P) w ad (news.take (m*e.size)) (fun j v hj=>by
      rw[zw] at hj;split at hj
      ·exact(n2 j v hj).1
      ·cases hj)
     rw[hnt] at hl;simpa[Builtin.firstCells] using hl
    ·obtain⟨p,hp⟩:=zG1 (zB1 hv);exact(n2 p v hp).2
    ·have:=n3 q x hx;have hq1:q*e.size+e.size<=m*e.size:=by rw[<-za2]; exact zB _ hq
     rw[zi2,zS1,zg1 (by omega)]
     exact this
  rw[hK] at hxs h9 h10 hsz c3 hdst hnl hfc hel;have a2:(lo+m)*K<=l.length*K:=zB K (by omega)
  have a3:l.length*K<=(cap0+1)*K:=zB K h7;rw[z71] at a2;have hrun:(Builtin.copy_ #[t,t2] rty #[u,sv]).run P w=.ok (.int .i64 (Int.ofNat m)) (w.setRow g (cur.toList.take (lo*K)++news++cur.toList.drop (lo*K+m*K)).toArray):=by
   have hmin:Nat.min y.length (l.length-lo)=m:=hme;obtain⟨ad,c,rfl,had⟩:=hdst;by_cases hm0:m=0
   ·have hn0:news=[]:=List.length_eq_zero_iff.1 (by rw[hnl,hm0]; simp)
    subst hn0;have e9:(cur.toList.take (lo*K)++[]++cur.toList.drop (lo*K+m*K)).toArray=cur:=by rw[hm0]; simp
    rw[e9,setRow_self w g cur te (0,0) h6];have s0:∀(ad:Addr),(storeCells ad []).run P w=.ok () w:=fun ad=>rfl
    simp[Builtin.copy_,zq hu,hsz,hlen,hmin,hfc,s0,goInt]
   ·have had:=had (by rw[hme]; exact hm0)
    subst had;have hst:=zX2 P g (lo*K) te news 0 cur w h6 (by rw[hnl,<-zq1,zq1,h9]; omega) hone
    simp only[z22,hnl] at hst ⊢;simp[Builtin.copy_,zq hu,hsz,hlen,hmin,hfc,hst,goInt]
  have hob:ObOk F (w.setRow g (cur.toList.take (lo*K)++news++cur.toList.drop (lo*K+m*K)).toArray) (.arr te e (cpyD l lo y)) (.slice (some ⟨g,0,none⟩) l.length (cap0+1)):=by
   have hnF:∀x,F x->x≠g:=fun x hF hg=>by
    subst hg;exact hr.mem.own b _ x (.inr (by rw[hA]; simp)) hρ (by rw[h5c]; rfl) hF
   have hc:∀x,F x->(w.setRow g (cur.toList.take (lo*K)++news++cur.toList.drop (lo*K+m*K)).toArray).heap[x]? = w.heap[x]?:=fun x hF=>zl2 w g x _ (hnF x hF)
   have hcur:cur.toList.length=(cap0+1)*K:=by rw[zq1,h9]
   have hnew:(cur.toList.take (lo*K)++news++cur.toList.drop (lo*K+m*K)).length=(cap0+1)*K:=by
    simp only[zd,hnl,zk,zY,hcur]; omega
   have hxc:∀i,i<l.length*K->xs[i]? = cur.toList[i]?:=fun i hi=>by rw[<-h10,zw,if_pos hi]
   have hsplice:∀i,i<l.length*K->(cur.toList.take (lo*K)++news++cur.toList.drop (lo*K+m*K))[i]? = if lo*K<=i/\i<lo*K+m*K then news[i-lo*K]? else xs[i]?:=by
    intro i hi;have:=qdt cur.toList (lo*K) news (by rw[hnl,hcur]; omega) i
    rw[hnl] at this;rw[this];by_cases h1:i<lo*K
    ·rw[if_pos h1,if_neg (by omega),hxc i hi]
    ·rw[if_neg h1];by_cases h2:i<lo*K+m*K
     ·rw[if_pos h2,if_pos ⟨by omega,h2⟩]
     ·rw[if_neg h2,if_neg (by omega),hxc i hi]
   have hlc:=qtd l y p1;refine⟨(cur.toList.take (lo*K)++news++cur.toList.drop (lo*K+m*K)).take (l.length*K),⟨by rw[zk,hlc,hK,hnew]; omega,.inr ⟨g,cap0,_,by rw[hlc],zj2 w g cur _ te (0,0) h6,by rw[hlc]; exact h7,h8,by rw[hK]; simpa using hnew,by rw[hlc,hK]⟩⟩,fun i z hz=>?_⟩
   rw[qte l y p1,hme] at hz;have hil:i<l.length:=by
    by_cases h1:lo<=i/\i<lo+m
    ·omega
    ·rw[if_neg h1] at hz; exact(zp.1 hz).1
   have hb1:∀q,q<K->(lo*K<=i*K+q↔lo<=i):=fun q hq=>qqN hq
   have hb2:∀q,q<K->(i*K+q<lo*K+m*K↔i<lo+m):=fun q hq=>by
    rw[<-z71];have:=qqN (i:=i) (n:=lo+m) hq;omega
   by_cases h1:lo<=i/\i<lo+m
   ·rw[if_pos h1] at hz;have h2:=(hel (i-lo) z (by omega) hz).mono (F':=F) (fun _ h=>h) hc
    have e9:((((cur.toList.take (lo*K)++news++cur.toList.drop (lo*K+m*K)).take (l.length*K)).drop (i*e.size)).take e.size)=(news.drop ((i-lo)*K)).take e.size:=by
     rw[hK];apply zK1;intro q;rw[zw,zw];by_cases hq:q<K
     ·rw[if_pos hq,if_pos hq,zC,zC];have hiq:=qm4 hil hq;rw[zw,if_pos hiq,hsplice _ hiq,if_pos ⟨(hb1 q hq).2 h1.1,(hb2 q hq).2 h1.2⟩];congr 1;have h3:(i-lo)*K+lo*K=i*K:=by rw[<-z71]; congr 1; omega
      omega
     ·rw[if_neg hq,if_neg hq]
    rw[e9,hK]; exact h2
   ·rw[if_neg h1] at hz;have h2:=(q3 i z hz).mono (F':=F) (fun _ h=>h) hc
    have e9:((((cur.toList.take (lo*K)++news++cur.toList.drop (lo*K+m*K)).take (l.length*K)).drop (i*e.size)).take e.size)=(xs.drop (i*e.size)).take e.size:=by
     rw[hK];apply zK1;intro q;rw[zw,zw];by_cases hq:q<K
     ·rw[if_pos hq,if_pos hq,zC,zC];have hiq:=qm4 hil hq;rw[zw,if_pos hiq,hsplice _ hiq,if_neg (fun h=>h1 ⟨(hb1 q hq).1 h.1,(hb2 q hq).1 h.2⟩)]
     ·rw[if_neg hq,if_neg hq]
    rw[e9]; exact h2
  have hρ2:ρ b=some (.slice (some ⟨g,0,none⟩) l.length (cap0+1)):=by rw[hρ,h5c]
  exact⟨_,by rw[hme]; exact hrun,hr.rowSet hA hρ2 h6 hob⟩
def qCh(K n:Nat):SV->Option (Nat×Bool)
 | .own _=>some (0,true)
 | .rest _ k lo n'=>bif Nat.beq k K then some (lo,decide (n'=n)) else none
 | _=>none
def copyB:SV->Option Nat
 | .own b=>some b
 | .rest b _ _ _=>some b
 | _=>none
def qwQ(b:Nat)(e:Ty)(l:List e.den):SV->Option (List e.den×Bool)
 | .pre b' hi n=>bif Nat.beq b b' then some (l.take hi,decide (n=l.length)&&decide (hi<=l.length)) else none
 | s=>match s.as (.sl e) with
  | some y=>some (y,true)
  | none=>none
def qv3(Γ:List TI)(st:St)(N:Nat)(dst:Option Nat)(t:TypeId)(x y:Operand):Option MR:=
 match copyB (st.ev x) with
 | some b=>match st.a b with
  | some (.arr te e l)=>match qCh e.size l.length (st.ev x),qwQ b e l (st.ev y) with
   | some (lo,g1),some (z,g2)=>bif qhX Γ t e.size&&Nat.blt 0 e.size&&dstOk N dst then
     some ⟨(g1&&g2)&&decide (0<l.length),qab x++(qab y++[.a b]),.a b (some (.arr te e (cpyD l lo z)))::dstWr (.v (.int .i64) (Int.ofNat (min z.length (l.length-lo)))) dst⟩
    else none
   | _,_=>none
  | _=>none
 | none=>none
theorem qxZ(hΓ:Tys P Γ){dst:Option Nat}{t t2:TypeId}{x y:Operand}{r:MR}(h:qv3 Γ st N dst t x y=some r)(hg:r.g=true):MOk P w0 M N F0 ops st dst (.call { callee:=.builtin .copy,args:=#[x,y],argTypes:=#[t,t2] }) rty r:=by
 unfold qv3 at h;split at h
 ·rename_i b hb;split at h
  ·rename_i te e l hA;split at h
   ·rename_i lo g1 z g2 hto hfrom;generalize hc:(qhX Γ t e.size&&Nat.blt 0 e.size&&dstOk N dst)=c at h;cases c with
    | false=>cases h
    | true=>
     simp only[zb] at h;injection h with h; subst h
     simp only[z9] at hc;obtain⟨⟨c2,c3⟩,c4⟩:=hc;rw[zS] at c3;obtain⟨et,hu,hsz⟩:=qfJ hΓ c2;simp only[z9,zo] at hg;obtain⟨⟨g1t,g2t⟩,g3⟩:=hg;intro pos af;refine RT.stepW rfl fun st' hag F ρ a w hr=>?_
     have hxd:=hr.evx hag (fun _ h=>mem_l h) (x:=x)
     have hyd:=hr.evx hag (fun _ h=>mem_r (mem_l h)) (x:=y)
     have hA':st'.a b=some (.arr te e l):=by rw[<-(hag (.a b) (by simp):st.a b=st'.a b)]; exact hA
     obtain⟨u0,hρ0,xs,q2,q3⟩:=hr.mem.arr b _ hA';have hob0:∃g cap,u0=.slice (some ⟨g,0,none⟩) l.length cap/\l.length<=cap:=by
      rcases q2.2 with⟨ad,_,h3⟩ | ⟨g,cap,cur,rfl,h6,h7,h8,h9,h10⟩
      ·omega
      ·exact⟨g,cap+1,rfl,h7⟩
     obtain⟨g,cap,rfl,hcap⟩:=hob0
     -- where it goes
     have hd:lo<=l.length/\∃ad c,a.eval x=.slice (some ad) (l.length-lo) c/\(min z.length (l.length-lo)≠0->ad=⟨g,lo*e.size,none⟩):=by
      unfold qCh at hto;split at hto
      ·rename_i b' hx;injection hto with hto; injection hto with e1 e2; subst e1 e2
       rw[hx] at hb hxd;have:b'=b:=by injection hb
       subst this;generalize a.eval x=u at hxd;cases hxd with
       | own hρ=>
        rw[hρ0] at hρ; injection hρ with hρ; subst hρ
        exact⟨zE1 _,_,_,rfl,fun _=>by simp⟩
      ·rename_i b' k lo' n' hx;rw[hx] at hb hxd;have:b'=b:=by injection hb
       subst this;cases hk:Nat.beq k e.size with
       | false=>rw[hk] at hto; cases hto
       | true=>
        rw[hk] at hto;injection hto with hto; injection hto with e1 e2; subst e1 e2
        have hk:=zc hk;subst hk;have hn:=zm g1t;subst hn;obtain⟨g',cap',hρ,p1,p2,hu1⟩:=qA4 hxd;rw[hρ0] at hρ; injection hρ with hρ; injection hρ with e1 e2 e3
        injection e1 with e1; injection e1 with e1
        subst e1 e3;refine⟨p1,?_⟩
        rw[hu1];by_cases hcl:cap=lo'
        ·rw[if_pos hcl];exact⟨_,_,rfl,fun hne=>by omega⟩
        ·rw[if_neg hcl];exact⟨_,_,rfl,fun _=>rfl⟩
      ·cases hto
     have hs:(∃c,a.eval y=.slice none 0 c/\z=[])\/∃(ad:Addr) (c:Nat) (news:List Value),a.eval y=.slice (some ad) z.length c/\news.length=z.length*e.size∧
       (∀q u,news[q]? = some u->w.cell? (ad.add q)=some u/\u.oneCell'=true)/\∀(q:Nat) (x:e.den),z[q]? = some x->RdC F w e x ((news.drop (q*e.size)).take e.size):=by
      unfold qwQ at hfrom;split at hfrom
      ·rename_i b' hi n hy;cases hbb:Nat.beq b b' with
       | false=>rw[hbb] at hfrom; cases hfrom
       | true=>
        rw[hbb] at hfrom;injection hfrom with hfrom; injection hfrom with e1 e2; subst e1 e2
        have hbb:=zc hbb;subst hbb;rw[z9] at g2t;have hn:=zm g2t.1;have hhi:=zm g2t.2;subst hn;rw[hy] at hyd;generalize a.eval y=u at hyd;cases hyd with
        | pre hρ hh=>
         rw[hρ0] at hρ; injection hρ with hρ; injection hρ with e1 e2 e3
         injection e1 with e1; injection e1 with e1
         subst e1 e3;rcases qp8 hr.mem hA' hρ0 with⟨c,h1,h2⟩ | ⟨ad,c,news,h1,n1,n2,n3⟩
         ·cases h1
         ·injection h1 with h1a h1b h1c
          injection h1a with h1a
          subst h1a;right;have hlt:(l.take hi).length=hi:=by rw[zk]; omega
          have hle:hi*e.size<=l.length*e.size:=zB _ hhi;refine⟨_,_,news.take (hi*e.size),by rw[hlt],by rw[hlt,zk,n1]; omega,fun q u hq=>?_,fun q x hx=>?_⟩
          ·rw[zw] at hq;split at hq
           ·exact n2 q u hq
           ·cases hq
          ·rw[zw] at hx;split at hx
           ·rename_i hq;have hq1:q*e.size+e.size<=hi*e.size:=by rw[<-za2]; exact zB _ hq
            rw[zi2,zS1,zg1 (by omega)]
            exact n3 q x hx
           ·cases hx
      ·split at hfrom
       ·rename_i y' hy';injection hfrom with hfrom; injection hfrom with e1 e2; subst e1 e2
        exact qnz (qqm hy' hyd)
       ·cases hfrom
     obtain⟨w',hrun,hR⟩:=qxY (rty:=rty) (t2:=t2) hr hA' hρ0 g3 hd.1 c3 hu hsz hd.2 hs;cases dst with
     | none=>
      refine⟨.int .i64 (Int.ofNat (min z.length (l.length-lo))),ρ,F,_,.inl ?_,hR,fun _ h=>h,fun _ h=>.inl h⟩
      simp only[execOp,resolve,invoke,builtin,zj,zn,zf,zw1,z41,zW1,hrun]
     | some d=>
      refine⟨.int .i64 (Int.ofNat (min z.length (l.length-lo))),ρ,F,_,.inl ?_,hR.setR (by rw[dstOk,zS] at c4; exact c4) (.ofInt _ _),fun _ h=>h,fun _ h=>.inl h⟩
      simp only[execOp,resolve,invoke,builtin,zj,zn,zf,zw1,z41,zW1,hrun]
   ·cases h
  ·cases h
 ·cases h
def qv4(Γ:List TI)(st:St)(N:Nat)(dst:Option Nat)(t:TypeId)(x y:Operand):Option MR:=
 match qzk Γ st N dst t x y with
 | some r=>some r
 | none=>qv3 Γ st N dst t x y
theorem qx0(hΓ:Tys P Γ){dst:Option Nat}{t t2:TypeId}{x y:Operand}{r:MR}(h:qv4 Γ st N dst t x y=some r)(hg:r.g=true):MOk P w0 M N F0 ops st dst (.call { callee:=.builtin .copy,args:=#[x,y],argTypes:=#[t,t2] }) rty r:=by
 unfold qv4 at h;split at h
 ·rename_i r' hr; injection h with h; subst h; exact qzl hΓ hr hg
 ·exact qxZ hΓ h hg
def qv5(Γ:List TI)(st:St):Op->Option VR
 | .lookup t x ix ok=>qqL Γ st t x ix ok
 | .slice t x (some lo) none none=>qzi Γ st t x lo
 | .slice t x none (some hi) none=>evPre Γ st t x hi
 | .entry x=>qv1 st x
 | .convert s d x=>qv2 Γ st s d x
 | _=>none
theorem qx1(hΓ:Tys P Γ){op:Op}{r:VR}(h:qv5 Γ st op=some r)(hg:r.g=true):VOk P w0 M N st op rty r:=by
 unfold qv5 at h;split at h
 ·exact quy hΓ h
 ·exact qzj hΓ h hg
 ·exact qA3 hΓ h hg
 ·exact qxV h
 ·exact qxX hΓ h
 ·cases h
def qv6(Γ:List TI)(st:St)(N:Nat)(dst:Option Nat):Op->Option MR
 | .range t x=>match dst with
  | some d=>qv0 Γ st N d t x
  | none=>none
 | .call ⟨.builtin .copy,⟨[x,y]⟩,⟨[t,_]⟩⟩=>qv4 Γ st N dst t x y
 | op=>qzf Γ st N dst op
theorem qx2(hΓ:Tys P Γ){dst:Option Nat}{op:Op}{r:MR}(h:qv6 Γ st N dst op=some r)(hg:r.g=true):MOk P w0 M N F0 ops st dst op rty r:=by
 unfold qv6 at h;split at h
 ·split at h
  ·exact qxU hΓ h
  ·cases h
 ·exact qx0 hΓ h hg
 ·exact qzg hΓ h hg
end
end Go.Sq
