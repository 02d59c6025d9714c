/- The second engine, part L: operations that write. No condition. -/
import Derived.Test.YtmdijohmddokhaaGreatDoorSqK
namespace Go.Sq
open Go Go.RowKit
structure MR where
 g:Bool
 rd:List Key
 wr:List Wr
section
variable {P:Program} {w0:World} {M:Mod} {N:Nat} {F0:Nat->Prop} {ops:Array Oper} {st:St} {Γ:List TI} {rty:TypeId}
variable {F:Nat->Prop} {ρ:Env} {a:Act} {w:World}
theorem Rel'.newA{w':World}{b d:Nat}{u:Value}{A:Ob}(h:Rel' P w0 M N F ρ st a w)(hb:st.d b=false)(hd:d<N)(hf:Fr w (fun _=>False) w')(hob:ObOk F w' A u)
  (hblk:∀g,blkOf u=some g->w.heap.size<=g):Rel' P w0 M N F (ρ.set b u) (st.app [.d b,.a b (some A),.r d (.own b)]) (a.put (some d) u) w':=by
 obtain⟨hv,_,hnp⟩:=h.mem.absent hb;have h1:=(h.grow0 hf).name (b:=b) (u:=u) hb hob.one;have hset:(ρ.set b u) b=some u:=by unfold Env.set; rw[if_pos rfl]
 have h2:=h1.addA (A:=A) hset hv hob (fun g hg=>⟨fun b' v hne hp hv' hbk=>by
   have hv2:ρ b'=some v:=by unfold Env.set at hv'; rwa[if_neg hne] at hv'
   have:=h.mem.lt (b:=b') hp hv2 hbk;have:=hblk g hg; omega,fun hF=>by have:=h.mem.fb g hF; have:=hblk g hg; omega,.inr (zG h.fr.size (hblk g hg))⟩)
 exact h2.setR hd (.own hset)
theorem Rel'.replA{w':World}{b0 b d:Nat}{u v0:Value}{A A0:Ob}(h:Rel' P w0 M N F ρ st a w)(hb:st.d b=false)(hd:d<N)(hA0:st.a b0=some A0)(hρ0:ρ b0=some v0)
  (hf:Fr w (fun g=>blkOf v0=some g) w') (hob:ObOk F w' A u) (hblk:blkOf u=blkOf v0\/∀g,blkOf u=some g->w.heap.size<=g):
  Rel' P w0 M N F (ρ.set b u) (st.app [.a b0 none,.d b,.a b (some A),.r d (.own b)]) (a.put (some d) u) w':=by
 have hne0:b0≠b:=fun e=>by subst e; rw[h.mem.dom b0 hb] at hρ0; cases hρ0
 have hp0:st.present b0:=.inr (by rw[hA0]; simp)
 have hd0:=h.dropA b0;have hv0:st.v b0=none:=by
  cases hx:st.v b0 with
  | none=>rfl
  | some x=>
   exfalso;obtain⟨g,arr,h1,h1b,_⟩:=h.mem.var b0 x.1 x.2 hx;obtain⟨u',h2,h3⟩:=h.mem.arr b0 A0 hA0;rw[h1] at h2; injection h2 with h2; subst h2
   exact h3.novar rfl h1b
 have hpr:∀b',(st.put (.a b0 none)).present b'->b'≠b0/\st.present b':=by
  intro b' hp;by_cases e:b'=b0
  ·subst e;exfalso;rcases hp with hp | hp
   ·exact hp hv0
   ·refine hp ?_
    show(bif Nat.beq b' b' then none else st.a b')=none;simp
  ·refine⟨e,?_⟩
   rcases hp with hp | hp
   ·exact .inl hp
   ·refine .inr ?_
    have hp':(bif Nat.beq b' b0 then none else st.a b')≠none:=hp;rw[bq e] at hp'; exact hp'
 have hdis:∀b' v g,(st.put (.a b0 none)).present b'->ρ b'=some v->blkOf v=some g->¬blkOf v0=some g:=by
  intro b' v g hp hv hg hg0;obtain⟨hne,hp'⟩:=hpr b' hp;exact hne (h.mem.sep b' b0 v v0 g hp' hp0 hv hρ0 hg hg0)
 have hnF:∀g,F g->¬blkOf v0=some g:=fun g hF hg=>h.mem.own b0 v0 g hp0 hρ0 hg hF
 have hlo0:∀g,blkOf v0=some g->M.blk g\/w0.heap.size<=g:=fun g hg=>h.lo b0 v0 g hp0 hρ0 hg
 have h1:=(hd0.move (F':=F) hf hdis hnF (fun _ h=>h) (fun _ h=>.inl h) (fun g hg=>zq1 (h.mem.fb g hg) hf.size) (fun g hg hlt=>(hlo0 g hg).resolve_right (by omega))).name (b:=b) (u:=u) hb hob.one
 have hset:(ρ.set b u) b=some u:=by unfold Env.set; rw[if_pos rfl]
 obtain⟨hv,_,_⟩:=h.mem.absent hb;have h2:=h1.addA (A:=A) hset hv hob (fun g hg=>by
  rcases hblk with e | e
  ·rw[e] at hg;exact⟨fun b' v hne hp hv' hbk=>by
    have hv2:ρ b'=some v:=by unfold Env.set at hv'; rwa[if_neg hne] at hv'
    exact hdis b' v g hp hv2 hbk hg,fun hF=>hnF g hF hg,hlo0 g hg⟩
  ·have hge:=e g hg;exact⟨fun b' v hne hp hv' hbk=>by
    have hv2:ρ b'=some v:=by unfold Env.set at hv'; rwa[if_neg hne] at hv'
    have:=h.mem.lt (b:=b') (hpr b' hp).2 hv2 hbk;omega,fun hF=>by have:=h.mem.fb g hF; omega,.inr (zG h.fr.size hge)⟩)
 exact h2.setR hd (.own hset)
def MOk(P:Program)(w0:World)(M:Mod)(N:Nat)(F0:Nat->Prop)(ops:Array Oper)(st0:St)(dst:Option Nat)(op:Op)(rty:TypeId)(r:MR):Prop:=
 ∀pos af,RT P w0 M N F0 ops ⟨dst,op,rty,pos,af,none⟩ st0 r.rd r.wr
/-! ### New variables -/
def qxk(b d:Nat)(t:TypeId)(cs:List SV):List Wr:=(.d b::.v b (some (t,cs.length))::qcB b 0 cs)++[.r d (.ptr b 0)]
def evBox(st:St)(N d:Nat)(t:TypeId)(x:Operand):Option MR:=
 match(st.ev x).cells with
 | some cs=>bif Nat.blt d N&&!st.d (fresh st d 8 0) then some ⟨true,qac x++[.d (fresh st d 8 0)],qxk (fresh st d 8 0) d t cs⟩ else none
 | none=>none
theorem qBB{d:Nat}{t:TypeId}{x:Operand}{r:MR}(h:evBox st N d t x=some r):MOk P w0 M N F0 ops st (some d) (.box t x) rty r:=by
 unfold evBox at h;split at h
 ·rename_i cs hc;cases hb:(Nat.blt d N&&!st.d (fresh st d 8 0)) with
  | false=>rw[hb] at h; cases h
  | true=>
   rw[hb] at h; injection h with h; subst h
   rw[z8,zX,zq] at hb;intro pos af;refine RT.stepW rfl fun st' hag F ρ a w hr=>?_
   have hd':st'.d (fresh st d 8 0)=false:=by rw[<-hb.2]; exact(hag (.d _) (by simp)).symm
   have hxd:=hr.evx hag (fun _ h=>mem_l h) (x:=x)
   obtain⟨c1,c2⟩:=qrf hr.mem.one hc hxd;have hn:=hr.newVar (b:=fresh st d 8 0) (d:=d) (ty:=t) (cs:=cs) (arr:=(a.eval x).cells) hd' hb.1 c1 c2;refine⟨_,_,F,_,.inl ?_,hn,fun _ h=>h,fun _ h=>.inl h⟩
   simp only[execOp,Instr.box,newVar,newRow,zl,zo,ze,run_newObj];rfl
 ·cases h
def qwr(Γ:List TI)(st:St)(N d:Nat)(t:TypeId):Option MR:=
 match look Γ t with
 | some i=>bif Nat.blt d N&&!st.d (fresh st d 8 0)&&i.zero.cells.toList.all (·.oneCell') then some ⟨true,[.d (fresh st d 8 0)],qxk (fresh st d 8 0) d t (zeroC i.zero)⟩ else none
 | none=>none
theorem qys(hΓ:Tys P Γ){d:Nat}{t:TypeId}{r:MR}(h:qwr Γ st N d t=some r):MOk P w0 M N F0 ops st (some d) (.alloc t) rty r:=by
 unfold qwr at h;split at h
 ·rename_i i hl;obtain⟨hi,rfl⟩:=qau hΓ hl;cases hb:(Nat.blt d N&&!st.d (fresh st d 8 0)&&i.zero.cells.toList.all (·.oneCell')) with
  | false=>rw[hb] at h; cases h
  | true=>
   rw[hb] at h; injection h with h; subst h
   rw[z8,z8,zX,zq] at hb;intro pos af;refine RT.stepW rfl fun st' hag F ρ a w hr=>?_
   have hd':st'.d (fresh st d 8 0)=false:=by rw[<-hb.1.2]; exact(hag (.d _) (by simp)).symm
   obtain⟨c1,c2⟩:=qoA (P:=P) (F:=F) (w:=w) (ρ:=ρ) hb.2;have hn:=hr.newVar (b:=fresh st d 8 0) (d:=d) (ty:=i.t) (cs:=zeroC i.zero) (arr:=i.zero.cells) hd' hb.1.1 c1 c2;refine⟨_,_,F,_,.inl ?_,hn,fun _ h=>h,fun _ h=>.inl h⟩
   simp only[execOp,Instr.alloc,run_zeroValue' hi,newVar,newRow,zl,zo,ze,run_newObj];rfl
 ·cases h
/-! ### Stores -/
theorem qdO(l:List Value)(o:Nat)(xs:List Value)(h:o+xs.length<=l.length)(j:Nat):
  (l.take o++xs++l.drop (o+xs.length))[j]? = if j<o then l[j]? else if j<o+xs.length then xs[j-o]? else l[j]?:=by
 rw[zu,List.getElem?_append,List.getElem?_append,zn,z91 (by omega)]
 split
 ·rw[zp,if_pos (by assumption)]
 ·split
  ·rw[if_pos (by omega)]
  ·rw[if_neg (by omega),zB]; congr 1; omega
theorem Rel'.storeCells(h:Rel' P w0 M N F ρ st a w){b o k g:Nat}{tyb:TypeId}{cs:List SV}{xs:List Value}(hv:st.v b=some (tyb,k))(hρ:ρ b=some (.pointer (some ⟨g,0,none⟩)))
  (hl:cs.length=xs.length) (hk:o+cs.length<=k) (hd:∀(j:Nat) (s:SV) (x:Value),cs[j]? = some s->xs[j]? = some x->Den P F w ρ s x/\x.oneCell'=true):
  ∃w',(Go.storeCells ⟨g,o,none⟩ xs).run P w=.ok () w'/\Rel' P w0 M N F ρ (st.app (qcB b o cs)) a w':=by
 obtain⟨g',arr,a1,a2,a3,a4⟩:=h.mem.var b tyb k hv;rw[hρ] at a1; injection a1 with a1; injection a1 with a1; injection a1 with a1; injection a1 with a1; subst a1
 have hfit:o+0+xs.length<=arr.size:=by omega
 have h1:∀v∈xs,v.oneCell'=true:=by
  intro v hv';obtain⟨j,hj⟩:=zp1 hv';have hjl:j<cs.length:=by rw[hl]; exact(zr.1 hj).1
  exact(hd j _ v (zk hjl) hj).2
 have hst:=zW2 P g o tyb xs 0 arr w a2 hfit h1;simp only[zP1] at hst hfit;refine⟨_,hst,?_⟩
 obtain⟨e1,e2,e3,e4,e5,e6,e7⟩:=qjv b cs o st;refine h.setVar hv hρ ?_ e1 e2 e3 e4 e5 ?_
 ·simp only[zy1,zd,zn,z01,zr1]; omega
 ·intro j x hx;have hx':(arr.toList.take o++xs++arr.toList.drop (o+xs.length))[j]? = some x:=by simpa using hx
  rw[qdO _ _ _ (by simpa using hfit)] at hx'
  by_cases c1:j<o
  ·rw[if_pos c1] at hx';rw[e6 j (.inl c1)];exact a4 j x (by simpa using hx')
  ·rw[if_neg c1] at hx';by_cases c2:j<o+xs.length
   ·rw[if_pos c2] at hx';have hs:cs[j-o]? = some (cs[j-o]'(by omega)):=zk (by omega)
    have h7:=e7 (j-o) _ hs;rw[show o+(j-o)=j by omega] at h7
    rw[h7];exact hd (j-o) _ x hs hx'
   ·rw[if_neg c2] at hx';rw[e6 j (.inr (by omega))]
    exact a4 j x (by simpa using hx')
theorem run_storeVar'{i:TI}(hi:i.ok P){ad:Addr}{v:Value}(hv:v.cells.size=i.size):(storeVar i.t ad v).run P w=(Go.storeCells ad v.cells.toList).run P w:=by
 simp[storeVar,run_sizeOf' hi,hv]
theorem qrp{τ:Ty}{x:τ.den}{cs:List Value}(h:RdC F w τ x cs):(mkV τ cs).cells=cs.toArray:=by
 unfold mkV;cases ha:τ.agg with
 | true=>rfl
 | false=>
  have hs:τ.size=1:=by cases τ <;> first | rfl | cases ha
  have hl:=h.size;rw[hs] at hl;obtain⟨c,rfl⟩:=zo1.1 hl;exact qre (h.one c (by simp))
theorem Rel'.newOne{b d:Nat}{ty:TypeId}{τ:Ty}{X:τ.den}{arr:Array Value}(h:Rel' P w0 M N F ρ st a w)(hb:st.d b=false)(hd:d<N)(hX:RdC F w τ X arr.toList):
  Rel' P w0 M N F (ρ.set b (.slice (some ⟨w.heap.size,0,none⟩) 1 1)) (st.app [.d b,.a b (some (.arr ty τ [X])),.r d (.ael b τ.size 0 0)]) (a.put (some d) (.pointer (some ⟨w.heap.size,0,none⟩))) (w.alloc (.cells arr ty)):=by
 obtain⟨hv,_,hnp⟩:=h.mem.absent hb;have hf:Fr w (fun _=>False) (w.alloc (.cells arr ty)):=qd8 w _
 have hX':RdC F (w.alloc (.cells arr ty)) τ X arr.toList:=hX.mono (fun _ h=>h) (fun g hg=>hf.blk g (h.mem.fb g hg) id)
 have hsz:arr.size=τ.size:=by have:=hX.size; simpa using this
 have hob:ObOk F (w.alloc (.cells arr ty)) (.arr ty τ [X]) (.slice (some ⟨w.heap.size,0,none⟩) 1 1):=by
  refine⟨arr.toList,⟨by simpa using hsz,.inr ⟨w.heap.size,0,arr,rfl,zm2 w _,z61 _,by unfold maxLen; omega,by simpa using hsz,by rw[zz (by simp[hsz])]⟩⟩,fun i x hx=>?_⟩
  cases i with
  | zero=>
   simp only[zt2,zn1] at hx;subst hx;rw[zA2,z32,zz (by simp[hsz])]; exact hX'
  | succ i=>simp at hx
 have h1:=(h.grow0 hf).name (b:=b) (u:=.slice (some ⟨w.heap.size,0,none⟩) 1 1) hb hob.one;have hset:(ρ.set b (.slice (some ⟨w.heap.size,0,none⟩) 1 1)) b=some (.slice (some ⟨w.heap.size,0,none⟩) 1 1):=by unfold Env.set; rw[if_pos rfl]
 have h2:=h1.addA (A:=.arr ty τ [X]) hset hv hob (fun g hg=>by
  injection hg with hg
  have hg:w.heap.size=g:=hg;subst hg;exact⟨fun b' v hne hp hv' hbk=>by
   have hv2:ρ b'=some v:=by unfold Env.set at hv'; rwa[if_neg hne] at hv'
   have:=h.mem.lt (b:=b') hp hv2 hbk;omega,fun hF=>by have:=h.mem.fb _ hF; omega,.inr h.fr.size⟩)
 have h3:=h2.setR (d:=d) (s:=.ael b τ.size 0 0) (u:=.pointer (some ⟨w.heap.size,0,none⟩)) hd (by
  have:=Den.ael (P:=P) (F:=F) (w:=w.alloc (.cells arr ty)) (k:=τ.size) (i:=0) (o:=0) hset (by omega)
  simpa using this)
 exact h3
def qBC(b d:Nat)(t:TypeId)(τ:Ty)(X:τ.den):List Wr:=[.d b,.a b (some (.arr t τ [X])),.r d (.ael b τ.size 0 0)]
def qzv(Γ:List TI)(st:St)(N d:Nat)(t:TypeId)(x:Operand):Option MR:=match d with
 | 0=>none
 | _+1=>none
theorem qzw(hΓ:Tys P Γ){d:Nat}{t:TypeId}{x:Operand}{r:MR}(h:qzv Γ st N d t x=some r):MOk P w0 M N F0 ops st (some d) (.box t x) rty r:=by
 unfold qzv at h;split at h <;> cases h
def qtO(Γ:List TI)(st:St)(N d:Nat)(t:TypeId):Option MR:=
 match look Γ t with
 | some i=>bif Nat.blt d N&&!st.d (fresh st d 8 0)&&i.zero.cells.toList.all (·.oneCell') then match asm i.τ (zeroC i.zero) with
   | some (X,[])=>some ⟨true,[.d (fresh st d 8 0)],qBC (fresh st d 8 0) d t i.τ X⟩
   | _=>none
  else none
 | none=>none
theorem qws(hΓ:Tys P Γ){d:Nat}{t:TypeId}{r:MR}(h:qtO Γ st N d t=some r):MOk P w0 M N F0 ops st (some d) (.alloc t) rty r:=by
 unfold qtO at h;split at h
 ·rename_i i hl;obtain⟨hi,rfl⟩:=qau hΓ hl;cases hb:(Nat.blt d N&&!st.d (fresh st d 8 0)&&i.zero.cells.toList.all (·.oneCell')) with
  | false=>rw[hb] at h; cases h
  | true=>
   rw[hb] at h; simp only[za] at h;split at h
   ·rename_i X hX;injection h with h; subst h
    rw[z8,z8,zX,zq] at hb;intro pos af;refine RT.stepW rfl fun st' hag F ρ a w hr=>?_
    have hd':st'.d (fresh st d 8 0)=false:=by rw[<-hb.1.2]; exact(hag (.d _) (by simp)).symm
    obtain⟨c1,c2⟩:=qoA (P:=P) (F:=F) (w:=w) (ρ:=ρ) hb.2;obtain⟨z1,z2,z3⟩:=qn3 (P:=P) (F:=F) (w:=w) (ρ:=ρ) (vs:=i.zero.cells.toList) hX (by simp[zeroC]) (fun q s u hs hu=>(c2 q s u hs (by simpa using hu)).1)
    have hlen:i.zero.cells.toList.length<=i.τ.size:=by
     have:=congrArg List.length z1;simp[zeroC] at this;exact Nat.le_of_sub_eq_zero (by simpa using this.symm)
    rw[zz hlen] at z2;have hn:=hr.newOne (b:=fresh st d 8 0) (d:=d) (ty:=i.t) (arr:=i.zero.cells) hd' hb.1.1 (X:=X) z2;refine⟨_,_,F,_,.inl ?_,hn,fun _ h=>h,fun _ h=>.inl h⟩
    simp only[execOp,Instr.alloc,run_zeroValue' hi,newVar,newRow,zl,zo,ze,run_newObj];rfl
   ·cases h
 ·cases h
theorem Rel'.storeElC{i o b g n cap:Nat}{tya:TypeId}{e:Ty}{l:List e.den}{z:e.den}{ds:List Value}(h:Rel' P w0 M N F ρ st a w)(hA:st.a b=some (.arr tya e l))
  (hρ:ρ b=some (.slice (some ⟨g,0,none⟩) n cap)) (hi:i<n) (hup:∀es,RdC F w e (l.getD i e.dflt) es->RdC F w e z (es.take o++ds++es.drop (o+ds.length))/\o+ds.length<=es.length) (hone:∀v∈ds,v.oneCell'=true):
  ∃w',(Go.storeCells ⟨g,i*e.size+o,none⟩ ds).run P w=.ok () w'/\Rel' P w0 M N F ρ (st.put (.a b (some (.arr tya e (l.set i z))))) a w':=by
 obtain⟨u,h1,xs,⟨h2,h3⟩,h4⟩:=h.mem.arr b _ hA;rw[hρ] at h1; injection h1 with h1; subst h1
 have hp0:st.present b:=.inr (by rw[hA]; simp)
 rcases h3 with⟨_,h3,_⟩ | ⟨g',cap',cur,h3,h6,h7,h8,h9,h10⟩
 ·injection h3 with _ h3 _; omega
 ·injection h3 with e1 e2 e3
  injection e1 with e1; injection e1 with e1; subst e1 e2
  rw[<-e3] at h7 h8 h9;have hbk:blkOf (.slice (some ⟨g,0,none⟩) l.length cap)=some g:=by rw[e3]; rfl
  have hx:l[i]? = some (l.getD i e.dflt):=qxf hi;have hes:=h4 i _ hx;obtain⟨u1,u2⟩:=hup _ hes;have hlen:=hes.size;have hrow:i*e.size+e.size<=l.length*e.size:=by
   have:=zA e.size (show i+1<=l.length from hi)
   rwa[z31,zx1] at this
  have hcap:l.length*e.size<=cap*e.size:=zA _ h7;have hfit:i*e.size+o+0+ds.length<=cur.size:=by omega
  have hst:=zW2 P g (i*e.size+o) tya ds 0 cur w h6 hfit (fun v hv=>hone v hv)
  simp only[zP1] at hst;refine⟨_,hst,?_⟩
  generalize hw':w.setRow g _=w';have hfr:Fr w (fun g'=>blkOf (.slice (some ⟨g,0,none⟩) l.length cap)=some g') w':=by
   subst hw';exact⟨rfl,rfl,rfl,by simp,fun g' _ hne=>zn2 w g g' _ (fun e=>hne (by subst e; exact hbk))⟩
  have hheap:w'.heap[g]? = some (.cells ((cur.toList.take (i*e.size+o)++ds++cur.toList.drop (i*e.size+o+ds.length)).toArray) tya (0,0)):=by
   subst hw'; exact zl2 w g cur _ tya (0,0) h6
  have hdrop:=h.dropA b;have hv0:st.v b=none:=by
   cases hxv:st.v b with
   | none=>rfl
   | some x=>obtain⟨g2,arr,q1,_⟩:=h.mem.var b x.1 x.2 hxv; rw[hρ] at q1; cases q1
  have hpr:∀b',(st.put (.a b none)).present b'->b'≠b/\st.present b':=by
   intro b' hp;by_cases e:b'=b
   ·subst e;exfalso;rcases hp with hp | hp
    ·exact hp hv0
    ·refine hp ?_
     show(bif Nat.beq b' b' then none else st.a b')=none;simp
   ·refine⟨e,?_⟩
    rcases hp with hp | hp
    ·exact .inl hp
    ·refine .inr ?_
     have hp':(bif Nat.beq b' b then none else st.a b')≠none:=hp;rw[bq e] at hp'; exact hp'
  have hdis:∀b' v g',(st.put (.a b none)).present b'->ρ b'=some v->blkOf v=some g'->¬blkOf (.slice (some ⟨g,0,none⟩) l.length cap)=some g':=by
   intro b' v g' hp hv hg hg0;obtain⟨hne,hp'⟩:=hpr b' hp;exact hne (h.mem.sep b' b v _ g' hp' hp0 hv hρ hg hg0)
  have hnF:∀g',F g'->¬blkOf (.slice (some ⟨g,0,none⟩) l.length cap)=some g':=fun g' hF hg=>h.mem.own b _ g' hp0 hρ hg hF
  have hlo0:∀g',blkOf (.slice (some ⟨g,0,none⟩) l.length cap)=some g'->M.blk g'\/w0.heap.size<=g':=fun g' hg=>h.lo b _ g' hp0 hρ hg
  have h1:=hdrop.move (F':=F) hfr hdis hnF (fun _ h=>h) (fun _ h=>.inl h) (fun g hg=>zq1 (h.mem.fb g hg) hfr.size) (fun g hg hlt=>(hlo0 g hg).resolve_right (by omega))
  have hc:∀g,F g->w'.heap[g]? = w.heap[g]?:=fun g hF=>hfr.blk _ (h.mem.fb _ hF) (hnF _ hF)
  have hcurlen:cur.toList.length=cap*e.size:=by rw[zr1]; exact h9
  -- the new cells
  have hxs:xs=cur.toList.take (l.length*e.size):=h10.symm
  let cur':=cur.toList.take (i*e.size+o)++ds++cur.toList.drop (i*e.size+o+ds.length)
  have hcl:cur'.length=cap*e.size:=by
   simp only[cur',zd,zn,z01]; omega
  have hob:ObOk F w' (.arr tya e (l.set i z)) (.slice (some ⟨g,0,none⟩) l.length cap):=by
   refine⟨cur'.take (l.length*e.size),⟨by simp only[zn,zQ]; omega,.inr ⟨g,cap',cur'.toArray,by simp[e3],hheap,by rw[<-e3]; simpa using h7,by rw[<-e3]; exact h8,by rw[<-e3]; simpa using hcl,by simp⟩⟩,fun j x hj=>?_⟩
   have hjl:j<l.length:=by have:=(zr.1 hj).1; simpa using this
   have hrowj:j*e.size+e.size<=l.length*e.size:=by
    have:=zA e.size (show j+1<=l.length from hjl)
    rwa[z31,zx1] at this
   have hget:∀q,q<l.length*e.size->cur'[q]? = if q<i*e.size+o then xs[q]? else if q<i*e.size+o+ds.length then ds[q-(i*e.size+o)]? else xs[q]?:=by
    intro q hq;have hxq:xs[q]? = cur.toList[q]?:=by rw[hxs,zp,if_pos hq]
    rw[hxq];exact qdO cur.toList (i*e.size+o) ds (by rw[hcurlen]; omega) q
   have hslice:∀q,q<e.size->((cur'.take (l.length*e.size)).drop (j*e.size))[q]? = cur'[j*e.size+q]?:=by
    intro q hq;rw[zB,zp,if_pos (by omega)]
   by_cases hji:j=i
   ·subst hji;rw[z92 hjl] at hj;injection hj with hj; subst hj
    refine(u1.mono (fun _ h=>h) hc:RdC F w' e z _) |> fun hh=>?_
    have he:((cur'.take (l.length*e.size)).drop (j*e.size)).take e.size=((xs.drop (j*e.size)).take e.size).take o++ds++((xs.drop (j*e.size)).take e.size).drop (o+ds.length):=by
     apply zC1;intro q;by_cases hq:q<e.size
     ·rw[zp,if_pos hq,hslice q hq,hget _ (by omega)]
      rw[qdO _ _ _ u2 q];have hxq:((xs.drop (j*e.size)).take e.size)[q]? = xs[j*e.size+q]?:=by rw[zp,if_pos hq,zB]
      rw[hxq];by_cases q1:q<o
      ·rw[if_pos q1,if_pos (by omega)]
      ·rw[if_neg q1,if_neg (by omega)]
       by_cases q2:q<o+ds.length
       ·rw[if_pos q2,if_pos (by omega)]; congr 1; omega
       ·rw[if_neg q2,if_neg (by omega)]
     ·rw[zp,if_neg hq,zl1];have:=u1.size;rw[this]; omega
    rw[he]; exact hh
   ·rw[zk2 (Ne.symm hji)] at hj;have hold:=(h4 j x hj).mono (fun _ h=>h) hc
    have hdisj:j*e.size+e.size<=i*e.size\/i*e.size+e.size<=j*e.size:=by
     rcases Nat.lt_or_gt_of_ne hji with hlt | hgt
     ·left;have:=zA e.size (show j+1<=i from hlt)
      rwa[z31,zx1] at this
     ·right;have:=zA e.size (show i+1<=j from hgt)
      rwa[z31,zx1] at this
    have he:((cur'.take (l.length*e.size)).drop (j*e.size)).take e.size=(xs.drop (j*e.size)).take e.size:=by
     apply zC1;intro q;by_cases hq:q<e.size
     ·rw[zp,if_pos hq,hslice q hq,hget _ (by omega),zp,if_pos hq,zB]
      rcases hdisj with hd | hd
      ·rw[if_pos (by omega)]
      ·rw[if_neg (by omega),if_neg (by omega)]
     ·rw[zp,if_neg hq,zp,if_neg hq]
    rw[he]; exact hold
  have h2:=h1.addA (b:=b) (A:=.arr tya e (l.set i z)) hρ hv0 hob (fun g' hg=>⟨fun b' v hne hp hv' hbk=>hdis b' v g' hp hv' hbk hg,fun hF=>hnF g' hF hg,hlo0 g' hg⟩)
  have heq:(st.put (.a b none)).put (.a b (some (.arr tya e (l.set i z))))=st.put (.a b (some (.arr tya e (l.set i z)))):=by
   refine St.ext' fun κ hg=>?_
   cases κ <;> first | (cases hg; done) | simp only[agree,St.put]
   rename_i b';cases hbb:Nat.beq b' b <;> simp
  rw[heq] at h2;exact h2
theorem Rel'.storeEl{i o b g n cap:Nat}{tya:TypeId}{e:Ty}{l:List e.den}{z:e.den}{ds:List Value}{τ':Ty}{y:τ'.den}(h:Rel' P w0 M N F ρ st a w)(hA:st.a b=some (.arr tya e l))
  (hρ:ρ b=some (.slice (some ⟨g,0,none⟩) n cap)) (hi:i<n) (hu:upd e (l.getD i e.dflt) o τ' y=some z) (hy:RdC F w τ' y ds):
  ∃w',(Go.storeCells ⟨g,i*e.size+o,none⟩ ds).run P w=.ok () w'/\Rel' P w0 M N F ρ (st.put (.a b (some (.arr tya e (l.set i z))))) a w':=
 h.storeElC hA hρ hi (fun es hes=>qro hu hes hy) (fun v hv=>hy.one v hv)
theorem qDt{e:Ty}{x z:e.den}{o n m:Nat}{τ:Ty}{L:List τ.den}{d:τ.den}(hs:τ.size=1)(hL:sub e x o (.arr n τ)=some L)(hz:upd e x o (.arr n τ) (List.set (α:=τ.den) L m d)=some z)(hm:m<n){es ds:List Value}(hx:RdC F w e x es)(hd:RdC F w τ d ds):
  RdC F w e z (es.take (o+m)++ds++es.drop (o+m+ds.length))/\o+m+ds.length<=es.length:=by
 obtain⟨a1,a2⟩:=qlv hL hx;obtain⟨_,g2⟩:=RdAr.get (fun _ _ h=>RdC.size h) τ.dflt a1 hm
 have h3:=g2 hd;have hds:=hd.size;have hsz:(Ty.arr n τ).size=n:=by show n*τ.size=n; rw[hs,zJ2]
 rw[hs,zJ2,hsz] at h3;rw[hsz] at a2;obtain⟨u1,u2⟩:=qro hz hx (h3:RdC F w (.arr n τ) _ _);rw[hs] at hds;have hlen:(((es.drop o).take n).take m++ds++((es.drop o).take n).drop (m+1)).length=n:=by simp; omega
 rw[hlen] at u1;refine⟨?_,by omega⟩
 have e1:es.take o++(((es.drop o).take n).take m++ds++((es.drop o).take n).drop (m+1))++es.drop (o+n)=es.take (o+m)++ds++es.drop (o+m+ds.length):=by
  have t1:((es.drop o).take n).take m=(es.drop o).take m:=by rw[zF1,z91 (by omega)]
  have t2:es.take (o+m)=es.take o++(es.drop o).take m:=by rw[List.take_add]
  have t3:((es.drop o).take n).drop (m+1)++es.drop (o+n)=es.drop (o+m+ds.length):=by
   rw[z42,zE1,hds];have:es.drop (o+n)=(es.drop (o+(m+1))).drop (n-(m+1)):=by rw[zE1]; congr 1; omega
   rw[this,zD1]; congr 1
  rw[t1,t2,<-t3]; simp only[zu]
 rw[<-e1]; exact u1
def pelCs(τ:Ty)(l:List τ.den):Nat->Nat->List SV
 | _,0=>[]
 | j,n+1=>.v τ (l.getD j τ.dflt)::pelCs τ l (j+1) n
theorem qvj{τ:Ty}{l:List τ.den}:∀ {n j:Nat},(pelCs τ l j n).length=n
 | 0,_=>rfl
 | n+1,j=>by simp only[pelCs,zg]; rw[qvj]
theorem qvk{τ:Ty}{l:List τ.den}:∀ {n j q:Nat},q<n->(pelCs τ l j n)[q]? = some (.v τ (l.getD (j+q) τ.dflt))
 | 0,_,_,h=>by omega
 | n+1,j,0,_=>rfl
 | n+1,j,q+1,h=>by
  have:=qvk (τ:=τ) (l:=l) (n:=n) (j:=j+1) (q:=q) (by omega)
  rw[show j+(q+1)=j+1+q by omega]
  exact this
theorem qtj{b:Nat}{τ:Ty}(hg:τ.agg=false){st st':St}:∀ {n o:Nat},(∀j,j<n->st.c b (o+j)=st'.c b (o+j))->pelL st b 1 1 τ o n=pelL st' b 1 1 τ o n
 | 0,_,_=>rfl
 | n+1,o,h=>by
  have h0:=h 0 (by omega)
  have h1:=qtj (b:=b) hg (st:=st) (st':=st') (n:=n) (o:=o+1) (fun j hj=>by rw[show o+1+j=o+(j+1) by omega]; exact h (j+1) (by omega))
  simp only[pelL,datAt,hg,zb];rw[h1,show st.c b o=st'.c b o from h0]
theorem Rel'.storePel(h:Rel' P w0 M N F ρ st a w){b o n k g ix:Nat}{tyb:TypeId}{τ:Ty}{l:List τ.den}{d:τ.den}{c:Value}(hv:st.v b=some (tyb,k))
  (hρ:ρ b=some (.pointer (some ⟨g,0,none⟩))) (hi:ix<n) (hk:o+n<=k) (hg:τ.agg=false) (hp:pelL st b 1 1 τ o n=some l) (hy:RdC F w τ d [c]):
  ∃w',(Go.storeCells ⟨g,o+ix*1,none⟩ [c]).run P w=.ok () w'/\Rel' P w0 M N F ρ (st.app (qcB b o (pelCs τ (l.set ix d) 0 n))) a w':=by
 obtain⟨g',arr,a1,a2,a3,a4⟩:=h.mem.var b tyb k hv;rw[hρ] at a1; injection a1 with a1; injection a1 with a1; injection a1 with a1; injection a1 with a1; subst a1
 obtain⟨p1,p2⟩:=qtI hp;have h1:∀v∈[c],v.oneCell'=true:=fun v hv'=>hy.one v hv'
 have hst:=zW2 P g (o+ix*1) tyb [c] 0 arr w a2 (by simp only[zg,zx]; omega) h1
 simp only[zP1] at hst;refine⟨_,hst,?_⟩
 obtain⟨e1,e2,e3,e4,e5,e6,e7⟩:=qjv b (pelCs τ (l.set ix d) 0 n) o st;rw[qvj] at e6;refine h.setVar hv hρ ?_ e1 e2 e3 e4 e5 ?_
 ·simp only[zy1,zd,zn,z01,zr1,zg,zx]; omega
 ·intro j x hx;have hx':(arr.toList.take (o+ix*1)++[c]++arr.toList.drop (o+ix*1+[c].length))[j]? = some x:=by simpa using hx
  rw[qdO _ _ _ (by simp only[zr1,zg,zx]; omega)] at hx'
  simp only[zg,zx,zY,zJ2] at hx';by_cases c1:j<o\/o+n<=j
  ·rw[e6 j c1];have hx2:arr.toList[j]? = some x:=by
    rcases c1 with c1 | c1
    ·rw[if_pos (by omega)] at hx'; exact hx'
    ·rw[if_neg (by omega),if_neg (by omega)] at hx'; exact hx'
   exact a4 j x (by simpa using hx2)
  ·have h7:=e7 (j-o) _ (qvk (by omega))
   rw[show o+(j-o)=j by omega,zY] at h7
   rw[h7];by_cases c2:j=o+ix
   ·rw[if_neg (by omega),if_pos (by omega),show j-(o+ix)=0 by omega] at hx'
    injection hx' with hx'; subst hx'
    have hgd:(l.set ix d).getD (j-o) τ.dflt=d:=by
     rw[zh,show j-o=ix by omega,z92 (by omega)]; rfl
    rw[hgd];refine⟨.v ⟨[c],hy,?_⟩,hy.one c (by simp)⟩
    unfold mkV; rw[hg]; rfl
   ·have hx2:arr.toList[j]? = some x:=by
     by_cases c3:j<o+ix
     ·rw[if_pos c3] at hx'; exact hx'
     ·rw[if_neg c3,if_neg (by omega)] at hx'; exact hx'
    have hgd:(l.set ix d).getD (j-o) τ.dflt=l.getD (j-o) τ.dflt:=by
     rw[zh,zk2 (by omega),zh]
    rw[hgd];obtain⟨d1,d2⟩:=a4 j x (by simpa using hx2)
    have hd:=p2 (j-o) (by omega)
    unfold datAt at hd;rw[hg,show o+(j-o)*1=j by omega] at hd
    exact⟨.v (qcR hd d1),d2⟩
def qwt(Γ:List TI)(st:St)(t:TypeId)(x y:Operand):Option MR:=
 match look Γ t with
 | none=>none
 | some i=>match st.ev x with
  | .ptr b o=>match st.v b,(st.ev y).cells with
   | some (_,k),some cs=>bif Nat.beq cs.length i.size&&Nat.ble (o+cs.length) k then some ⟨true,qac x++(qac y++[.v b]),qcB b o cs⟩ else none
   | _,_=>none
  | .ael b k ix o=>match st.a b,(st.ev y).dat i.τ with
   | some (.arr ty e l),some d=>bif Nat.beq k e.size&&Nat.beq i.size i.τ.size then match upd e (l.getD ix e.dflt) o i.τ d with
     | some z=>some ⟨true,qac x++(qac y++[.a b]),[.a b (some (.arr ty e (l.set ix z)))]⟩
     | none=>none
    else none
   | _,_=>none
  | .pel b n k ix o=>match st.v b,(st.ev y).dat i.τ with
   | some (_,kv),some d=>bif Nat.beq k 1&&Nat.beq i.size 1&&Nat.beq i.τ.size 1&&!i.τ.agg&&Nat.ble (o+n) kv then match pelL st b 1 1 i.τ o n with
     | some l=>some ⟨true,qac x++(qac y++(.v b::qhF b o n)),qcB b o (pelCs i.τ (l.set ix d) 0 n)⟩
     | none=>none
    else none
   | _,_=>none
  | .aix b k ix o n m=>match st.a b,(st.ev y).dat i.τ with
   | some (.arr ty e l),some d=>bif Nat.beq k e.size&&Nat.beq i.size i.τ.size&&Nat.beq i.size 1 then match sub e (l.getD ix e.dflt) o (.arr n i.τ) with
     | some L=>match upd e (l.getD ix e.dflt) o (.arr n i.τ) (List.set (α:=i.τ.den) L m d) with
      | some z=>some ⟨true,qac x++(qac y++[.a b]),[.a b (some (.arr ty e (l.set ix z)))]⟩
      | none=>none
     | none=>none
    else none
   | _,_=>none
  | _=>none
theorem qyt(hΓ:Tys P Γ){t:TypeId}{x y:Operand}{r:MR}(h:qwt Γ st t x y=some r):MOk P w0 M N F0 ops st none (.store t x y) rty r:=by
 unfold qwt at h;split at h
 ·cases h
 ·rename_i i hl;obtain⟨hi,rfl⟩:=qau hΓ hl;split at h
  ·rename_i b o hx;split at h
   ·rename_i tyb k cs hv hc;cases hb:(Nat.beq cs.length i.size&&Nat.ble (o+cs.length) k) with
    | false=>rw[hb] at h; cases h
    | true=>
     rw[hb] at h; injection h with h; subst h
     rw[z8] at hb;have h1:=zc hb.1;have h2:=zH hb.2;intro pos af;refine RT.stepW rfl fun st' hag F ρ a w hr=>?_
     have hxd:=hr.evx hag (fun _ h=>mem_l h) (x:=x)
     have hyd:=hr.evx hag (fun _ h=>mem_r (mem_l h)) (x:=y)
     have hv':st'.v b=some (tyb,k):=by rw[<-hv]; exact(hag (.v b) (by simp)).symm
     obtain⟨c1,c2⟩:=qrf hr.mem.one hc hyd;rw[hx] at hxd;generalize he:a.eval x=u at hxd;cases hxd with
     | ptr hρ=>
      rename_i g;obtain⟨w',g1,g2⟩:=hr.storeCells (P:=P) (cs:=cs) (xs:=(a.eval y).cells.toList) hv' hρ (o:=o) (by simpa using c1) h2 (fun j s x hs hx=>c2 j s x hs (by simpa using hx))
      refine⟨undef,ρ,F,w',.inr ⟨?_,rfl⟩,g2,fun _ h=>h,fun _ h=>.inl h⟩
      have hrs:=run_storeVar' (w:=w) hi (ad:=⟨g,o,none⟩) (v:=a.eval y) (by rw[<-c1,h1])
      simp only[execOp,he,Instr.storeAt,Instr.sureAddr,zl,zo,ze,hrs,g1]
   ·cases h
  ·rename_i b k ix o hx;split at h
   ·rename_i tya e l d hA hd;cases hb:(Nat.beq k e.size&&Nat.beq i.size i.τ.size) with
    | false=>rw[hb] at h; cases h
    | true=>
     rw[hb] at h; simp only[za] at h;rw[z8] at hb;have h1:=zc hb.1;have h2:=zc hb.2;subst h1;split at h
     ·rename_i z hz;injection h with h; subst h
      intro pos af;refine RT.stepW rfl fun st' hag F ρ a w hr=>?_
      have hxd:=hr.evx hag (fun _ h=>mem_l h) (x:=x)
      have hyd:=qcR hd (hr.evx hag (fun _ h=>mem_r (mem_l h)) (x:=y))
      have hA':st'.a b=some (.arr tya e l):=by rw[<-hA]; exact(hag (.a b) (by simp)).symm
      obtain⟨ds,hds,hyv⟩:=hyd;rw[hx] at hxd;generalize he:a.eval x=u at hxd;cases hxd with
      | ael hρ hin=>
       rename_i g n cap;obtain⟨w',g1,g2⟩:=hr.storeEl hA' hρ hin hz hds;refine⟨undef,ρ,F,w',.inr ⟨?_,rfl⟩,g2,fun _ h=>h,fun _ h=>.inl h⟩
       have hcv:=qrp hds;have hrs:=run_storeVar' (w:=w) hi (ad:=⟨g,ix*e.size+o,none⟩) (v:=a.eval y) (by rw[hyv,hcv,h2]; simpa using hds.size)
       rw[hyv,hcv] at hrs;simp only[execOp,he,hyv,Instr.storeAt,Instr.sureAddr,zl,zo,ze,hrs,g1]
     ·cases h
   ·cases h
  ·rename_i b n k ix o hx;split at h
   ·rename_i tyb kv d hv hd;cases hb:(Nat.beq k 1&&Nat.beq i.size 1&&Nat.beq i.τ.size 1&&!i.τ.agg&&Nat.ble (o+n) kv) with
    | false=>rw[hb] at h; cases h
    | true=>
     rw[hb] at h; simp only[za] at h;rw[z8,z8,z8,z8,zq] at hb;have h1:=zc hb.1.1.1.1;have h2:=zc hb.1.1.1.2;have h3:=zc hb.1.1.2;have hg:=hb.1.2;have hle:=zH hb.2;subst h1;split at h
     ·rename_i l hp;injection h with h; subst h
      intro pos af;refine RT.stepW rfl fun st' hag F ρ a w hr=>?_
      have hxd:=hr.evx hag (fun _ h=>mem_l h) (x:=x)
      have hyd:=qcR hd (hr.evx hag (fun _ h=>mem_r (mem_l h)) (x:=y))
      have hv':st'.v b=some (tyb,kv):=by rw[<-hv]; exact(hag (.v b) (by simp)).symm
      have hp':pelL st' b 1 1 i.τ o n=some l:=by
       rw[<-hp];exact(qtj hg fun j hj=>hag (.c b (o+j)) (mem_r (mem_r (zO _ (qgN hj))))).symm
      obtain⟨ds,hds,hyv⟩:=hyd;have hl:=hds.size;rw[h3] at hl;obtain⟨c,rfl⟩:=zo1.1 hl;rw[hx] at hxd;generalize he:a.eval x=u at hxd;cases hxd with
      | pel hρ hin=>
       rename_i g;obtain⟨w',g1,g2⟩:=hr.storePel (P:=P) hv' hρ hin hle hg hp' hds;refine⟨undef,ρ,F,w',.inr ⟨?_,rfl⟩,g2,fun _ h=>h,fun _ h=>.inl h⟩
       have hcv:=qrp hds;have hrs:=run_storeVar' (w:=w) hi (ad:=⟨g,o+ix*1,none⟩) (v:=a.eval y) (by rw[hyv,hcv,h2]; rfl)
       rw[hyv,hcv] at hrs;simp only[execOp,he,hyv,Instr.storeAt,Instr.sureAddr,zl,zo,ze,hrs,g1]
     ·cases h
   ·cases h
  ·rename_i b k ix o n m hx;split at h
   ·rename_i tya e l d hA hd;cases hb:(Nat.beq k e.size&&Nat.beq i.size i.τ.size&&Nat.beq i.size 1) with
    | false=>rw[hb] at h; cases h
    | true=>
     rw[hb] at h; simp only[za] at h;rw[z8,z8] at hb;have h1:=zc hb.1.1;have h2:=zc hb.1.2;have h3:=zc hb.2;subst h1;split at h
     ·rename_i L hL;split at h
      ·rename_i z hz;injection h with h; subst h
       intro pos af;refine RT.stepW rfl fun st' hag F ρ a w hr=>?_
       have hxd:=hr.evx hag (fun _ h=>mem_l h) (x:=x)
       have hyd:=qcR hd (hr.evx hag (fun _ h=>mem_r (mem_l h)) (x:=y))
       have hA':st'.a b=some (.arr tya e l):=by rw[<-hA]; exact(hag (.a b) (by simp)).symm
       obtain⟨ds,hds,hyv⟩:=hyd;rw[hx] at hxd;generalize he:a.eval x=u at hxd;cases hxd with
       | aix hρ hin hm=>
        rename_i g cap n';obtain⟨w',g1,g2⟩:=hr.storeElC (z:=z) (o:=o+m) (ds:=ds) hA' hρ hin (fun es hes=>qDt (by rw[<-h2,h3]) hL hz hm hes hds) hds.one
        refine⟨undef,ρ,F,w',.inr ⟨?_,rfl⟩,g2,fun _ h=>h,fun _ h=>.inl h⟩
        have hcv:=qrp hds;have hrs:=run_storeVar' (w:=w) hi (ad:=⟨g,ix*e.size+(o+m),none⟩) (v:=a.eval y) (by rw[hyv,hcv,h2]; simpa using hds.size)
        rw[hyv,hcv] at hrs;simp only[execOp,he,hyv,Instr.storeAt,Instr.sureAddr,zl,zo,ze,hrs,g1]
      ·cases h
     ·cases h
   ·cases h
  ·cases h
end
end Go.Sq
