/- The second engine, part LI: slices.Insert of one value into an own array, from what is known of its calls. No condition. -/
import Derived.Test.YtmdijohmddokhaaGreatDoorSqZ
import Derived.Laws.IdiomCopy
namespace Go.Sq
open Go Go.RowKit
theorem qgT(g:Nat):∀(vs:List Value) (o:Nat) (w:World) (cur:Array Value) (t:TypeId) (fz:Nat×Nat),w.heap[g]? = some (.cells cur t fz)->o+vs.length<=cur.size->
  w.setCells g o vs=w.setRow g (cur.toList.take o++vs++cur.toList.drop (o+vs.length)).toArray
 | [],o,w,cur,t,fz,hg,_=>by
  have:(cur.toList.take o++[]++cur.toList.drop (o+([]:List Value).length)).toArray=cur:=by simp
  rw[this,setRow_self w g cur t fz hg]; rfl
 | v::vs,o,w,cur,t,fz,hg,hl=>by
  simp only[zg] at hl;show(w.setCell ⟨g,o,none⟩ v).setCells g (o+1) vs=_;rw[setCell_eq_setRow w g o cur t fz v hg,qgT g vs (o+1) _ (cur.setIfInBounds o v) t fz (zl2 w g cur _ t fz hg) (by simp; omega),setRow_setRow]
  congr 2;have h1:(cur.setIfInBounds o v).toList=cur.toList.take o++v::cur.toList.drop (o+1):=by
   rw[Array.toList_setIfInBounds,List.set_eq_take_append_cons_drop,if_pos (by simpa using (by omega:o<cur.size))]
  have hto:(cur.toList.take o).length=o:=by simp; omega
  rw[h1];have e1:(cur.toList.take o++v::cur.toList.drop (o+1)).take (o+1)=cur.toList.take o++[v]:=by
   rw[zX2,hto,zz (by omega),zS1]; rfl
  have e2:(cur.toList.take o++v::cur.toList.drop (o+1)).drop (o+1+vs.length)=cur.toList.drop (o+(vs.length+1)):=by
   rw[zO1,hto,zZ (by omega),zC,show o+1+vs.length-o=vs.length+1 by omega,List.drop_succ_cons,zE1]
   congr 1; omega
  rw[e1,e2]; simp
theorem qxM{α:Type}{R vs:List α}{o:Nat}(h:o<=R.length):(R.take o++vs++R.drop (o+vs.length)).take (o+vs.length)=R.take o++vs:=by
 have:(R.take o++vs).length=o+vs.length:=by simp; omega
 rw[zg1 (by omega),zz (by omega)]
variable {P:Program} {F:Nat->Prop} {w:World}
theorem qBT{e:Ty}{l:List e.den}{xs:List Value}(hx:∀(i:Nat) (x:e.den),l[i]? = some x->RdC F w e x ((xs.drop (i*e.size)).take e.size))(j i:Nat)(x:e.den)(h:(l.take j)[i]? = some x):
  RdC F w e x (((xs.take (j*e.size)).drop (i*e.size)).take e.size):=by
 rw[zp] at h;split at h
 ·rename_i hij;have hk:i*e.size+e.size<=j*e.size:=by rw[<-zY1]; exact zA _ hij
  rw[z42,zF1,z91 (by omega)]
  exact hx i x h
 ·cases h
theorem qBU{e:Ty}{l:List e.den}{xs:List Value}(hx:∀(i:Nat) (x:e.den),l[i]? = some x->RdC F w e x ((xs.drop (i*e.size)).take e.size))(j i:Nat)(x:e.den)(h:(l.drop j)[i]? = some x):
  RdC F w e x (((xs.drop (j*e.size)).drop (i*e.size)).take e.size):=by
 rw[zB] at h;rw[zE1,<-z31];exact hx _ x h
def insT{α:Type}(bytes:Nat)(i:Int)(l v:List α):Option (List α):=
 bif decide (0<=i)&&decide (i<=(l.length:Int))&&Nat.beq v.length 1&&fits (l.length+1) bytes then some (l.take i.toNat++v++l.drop i.toNat) else none
def qgU(f:FuncId)(ty:TypeId)(e:Ty)(bytes:Nat):Fun:=
 { f:=f,np:=3,nr:=1,ji:={ regs:=[(0,.one (.own 0)),(1,.one (.data (.int .i64))),(2,.one (.own 1))],vars:=[],arrs:=[(0,.arr ty e),(1,.arr ty e)] },jo:={ regs:=[(0,.one (.own 2))],vars:=[],arrs:=[(2,.arr ty e)] },tw:=fun x=>insT bytes x.1 x.2.1 x.2.2 }
theorem qwS(ty:TypeId)(e:Ty)(l:List e.den):ObSh.put (.arr ty e) (.v (.sl e) l)=some (.arr ty e l):=by simp[ObSh.put,SV.asCt]
theorem qEC{f:FuncId}{t ty:TypeId}{e:Ty}{bytes:Nat}{zv:Value}(hok:FnOk P f)(ht:P.underlying t=some (.slice ty))(hi0:∃i,P.info? ty=some i/\i.size=e.size/\i.bytes=bytes/\i.zero=some zv)(hzs:zv.cells.size=e.size)(hk:0<e.size)(hby:0<bytes)
  (hEnd:∀(base:Option Addr) (n c vb voff vc:Nat) (w:World) (_:n<=c) (_:c<=9223372036854775807) (_:base=none->n=0/\c=0) (v':Value) (w1:World)
   (_:∀rt,(Builtin.append_ #[t,t] rt #[.slice base n c,.slice (some ⟨vb,voff,none⟩) 1 vc]).run P w=.ok v' w1),
   Calls P f #[.slice base n c,.int .i64 n,.slice (some ⟨vb,voff,none⟩) 1 vc] w fun e w'=>e=.returned v'/\w'=w1)
  (hGrow:∀(b n c i vb voff vc:Nat) (cs vs:List Value) (w:World) (_:i<n) (_:n<=c) (_:c<n+1) (_:(n+1)*bytes<=140737488355328) (_:cs.length=n*e.size) (_:vs.length=e.size)
   (_:∀j v,cs[j]? = some v->w.cell? ⟨b,j,none⟩=some v) (_:∀j v,vs[j]? = some v->w.cell? ⟨vb,voff+j,none⟩=some v) (_:∀v∈cs,v.oneCell'=true) (_:∀v∈vs,v.oneCell'=true),
   Calls P f #[.slice (some ⟨b,0,none⟩) n c,.int .i64 i,.slice (some ⟨vb,voff,none⟩) 1 vc] w fun en w'=>∃(ROW:Array Value) (G:Nat),ROW.size=G*e.size/\n+1<=G/\G<=maxLen/\ROW.toList.take (i*e.size)=cs.take (i*e.size)∧
    en=.returned (.slice (some ⟨w.heap.size,0,none⟩) (n+1) G)/\w'=(((w.alloc (.cells ROW ty)).drew.setCells w.heap.size (i*e.size) vs).drew).setCells w.heap.size ((i+1)*e.size) (cs.drop (i*e.size)))
  (hShift:∀(b n c i vb voff vc:Nat) (cs vs:List Value) (w:World) (_:i<n) (_:n+1<=c) (_:c<=9223372036854775807) (_:vb≠b) (_:cs.length=n*e.size) (_:vs.length=e.size) (_:∀j v,cs[j]? = some v->w.cell? ⟨b,j,none⟩=some v)
   (_:∀j,j<(n+1)*e.size->(w.cell? ⟨b,j,none⟩).isSome=true) (_:∀j,j<(n+1)*e.size->w.frozen? ⟨b,j,none⟩=false) (_:∀j v,vs[j]? = some v->w.cell? ⟨vb,voff+j,none⟩=some v)
   (_:∀v∈cs,v.oneCell'=true) (_:∀v∈vs,v.oneCell'=true) (tA tB:TypeId) (kA kB:Nat) (_:w.shape? vb=some (tA,kA)) (_:w.shape? b=some (tB,kB)) (_:kB≠0) (_:w.frozen? ⟨vb,voff,none⟩=false) (_:w.frozen? ⟨vb,kA,none⟩=false),
   Calls P f #[.slice (some ⟨b,0,none⟩) n c,.int .i64 i,.slice (some ⟨vb,voff,none⟩) 1 vc] w fun en w'=>en=.returned (.slice (some ⟨b,0,none⟩) (n+1) c)/\w'=(w.drew.setCells b ((i+1)*e.size) (cs.drop (i*e.size))).setCells b (i*e.size) vs):
  FunOk P (qgU f ty e bytes):=by
 refine⟨hok,fun(x:Int×List e.den×List e.den) (y:List e.den) hxy F w ρ vs hl hm hd=>?_⟩
 obtain⟨i,l,v⟩:=x;have hxy':insT bytes i l v=some y:=hxy;unfold insT at hxy';generalize hc:(decide (0<=i)&&decide (i<=(l.length:Int))&&Nat.beq v.length 1&&fits (l.length+1) bytes)=c at hxy';cases c with
 | false=>cases hxy'
 | true=>
 injection hxy' with hxy'
 simp only[z8,zj] at hc;obtain⟨⟨⟨c1,c2⟩,c3⟩,c4⟩:=hc;have c3:=zc c3;have c4:(l.length+1)*bytes<=140737488355328:=zH c4;obtain⟨k,rfl⟩:=Int.eq_ofNat_of_zero_le c1;rw[z9] at hxy';have hkn:k<=l.length:=by omega
 subst hxy';obtain⟨u0,u1,u2,rfl⟩:∃a b c,vs=[a,b,c]:=by
  match vs,hl with
  | [a,b,c],_=>exact⟨a,b,c,rfl⟩
 have h0:Den P F w ρ (.own 0) u0:=hd 0 u0 rfl;have h1:Den P F w ρ (.v (.int .i64) (k:Int)) u1:=hd 1 u1 rfl;have h2:Den P F w ρ (.own 1) u2:=hd 2 u2 rfl;have hu1:u1=.int .i64 (k:Int):=by
  cases h1 with
  | v h=>obtain⟨cs,h1,h2⟩:=h; have:cs=[.int .i64 (k:Int)]:=h1; subst this; exact h2
 subst hu1;have hρ0:ρ 0=some u0:=by cases h0 with | own h=>exact h
 have hρ1:ρ 1=some u2:=by cases h2 with | own h=>exact h
 have hA0:((qgU f ty e bytes).ji.put0 ((k:Int),l,v)).a 0=some (.arr ty e l):=qwS ty e l;have hA1:((qgU f ty e bytes).ji.put0 ((k:Int),l,v)).a 1=some (.arr ty e v):=qwS ty e v;have hp0:((qgU f ty e bytes).ji.put0 ((k:Int),l,v)).present 0:=.inr (by rw[hA0]; simp)
 have hp1:((qgU f ty e bytes).ji.put0 ((k:Int),l,v)).present 1:=.inr (by rw[hA1]; simp)
 obtain⟨u0',q1,xs,q2,q3⟩:=hm.arr 0 _ hA0;rw[hρ0] at q1; injection q1 with q1; subst q1
 obtain⟨u2',z1,ys,z2,z3⟩:=hm.arr 1 _ hA1;rw[hρ1] at z1; injection z1 with z1; subst z1
 rw[c3] at z2;have hyl:ys.length=e.size:=by rw[z2.1,zx1]
 have hone:∀ {l:List e.den} {xs:List Value} {n:Nat},l.length=n->xs.length=n*e.size->(∀(i:Nat) (x:e.den),l[i]? = some x->RdC F w e x ((xs.drop (i*e.size)).take e.size))->∀u∈xs,u.oneCell'=true:=by
  intro l xs n hln hxl hx u hu;obtain⟨j,hj⟩:=zp1 hu;have hjl:j<l.length*e.size:=by rw[hln,<-hxl]; exact(zr.1 hj).1
  have hi:j/e.size<l.length:=zG2 (by rw[zX1]; exact hjl)
  have:=hx (j/e.size) _ (zk hi);refine this.one u (zF (i:=j%e.size) ?_)
  rw[zp,if_pos (Nat.mod_lt _ hk),zB,show j/e.size*e.size+j%e.size=j by rw[zX1]; exact zN2 j e.size]
  exact hj
 have h1c:=hone rfl q2.1 q3;have h1v:=hone c3 z2.1 z3;have hFu:∀g,F g->blkOf u0≠some g:=fun g hF hb=>hm.own 0 u0 g hp0 hρ0 hb hF
 have hin0:∀g,blkOf u0=some g->InBlk ρ (qgU f ty e bytes).ji.names g:=fun g hg=>⟨0,u0,by show(0:Nat)∈[0,1]; simp,hρ0,hg⟩
 have fin:∀(r:Value) (w':World) (rs:List Value),OwnR w' ty e.size r (l.length+1) rs->Fr w (fun g=>blkOf u0=some g) w'->(blkOf r=blkOf u0\/∀g,blkOf r=some g->w.heap.size<=g)->rs=xs.take (k*e.size)++ys++xs.drop (k*e.size)->
   ∃r' F' ρ',Ending.returned r=.returned r'/\Fr w (InBlk ρ (qgU f ty e bytes).ji.names) w'/\(∀g,F g->F' g)/\(∀g,F' g->F g\/InBlk ρ (qgU f ty e bytes).ji.names g\/w.heap.size<=g)/\MemOk P F' w' ρ' ((qgU f ty e bytes).jo.put0 (l.take k++v++l.drop k))∧
    (∀b v,b∈(qgU f ty e bytes).ji.names->b∈(qgU f ty e bytes).jo.names->ρ b=some v->ρ' b=some v)/\(∀b' v' g,((qgU f ty e bytes).jo.put0 (l.take k++v++l.drop k)).present b'->ρ' b'=some v'->blkOf v'=some g->InBlk ρ (qgU f ty e bytes).ji.names g\/w.heap.size<=g)/\Den P F' w' ρ' (resSV (qgU f ty e bytes).nr ((qgU f ty e bytes).jo.put0 (l.take k++v++l.drop k))) r':=by
  intro r w' rs ho hf hb hrs;have hw:∀g,F g->w'.heap[g]? = w.heap[g]?:=fun g hg=>hf.blk g (hm.fb g hg) (hFu g hg)
  have hlen:(l.take k++v++l.drop k).length=l.length+1:=by simp[c3]; omega
  have hel:∀(q:Nat) (z:e.den),(l.take k++v++l.drop k)[q]? = some z->RdC F w' e z ((rs.drop (q*e.size)).take e.size):=by
   intro q z hz;have hkk:k*e.size<=xs.length:=by rw[q2.1]; exact zA _ hkn
   have:=qmE (e:=e) (w':=w) (F:=F) (l:=l.take k++v) (l2:=l.drop k) (xs:=xs.take (k*e.size)++ys) (news:=xs.drop (k*e.size)) (by
    rw[zd,zn,z91 hkk,zd,zn,z91 hkn,z31,c3,zx1,hyl])
    (qmE (by rw[zn,z91 hkk,zn,z91 hkn]) (qBT q3 k) z3) (qBU q3 k) q z hz
   rw[hrs];exact this.mono (fun _ h=>h) hw
  have hgo:∀b' v',(fun b=>if b=2 then some r else none:Env) b'=some v'->b'=2/\v'=r:=by
   intro b' v' h;by_cases hb':b'=2
   ·subst hb'; injection h with h; exact⟨rfl,h.symm⟩
   ·have h':(if b'=2 then some r else none)=some v':=h
    rw[if_neg hb'] at h'; cases h'
  have hAo:∀b' A,((qgU f ty e bytes).jo.put0 (l.take k++v++l.drop k)).a b'=some A->b'=2/\A=.arr ty e (l.take k++v++l.drop k):=by
   intro b' A h;have h':(bif Nat.beq b' 2 then ObSh.put (.arr ty e) (.v (.sl e) (l.take k++v++l.drop k)) else none)=some A:=h;rw[qwS] at h';by_cases hb':b'=2
   ·subst hb'; injection h' with h'; exact⟨rfl,h'.symm⟩
   ·rw[bq hb'] at h'; cases h'
  refine⟨r,F,fun b=>if b=2 then some r else none,rfl,⟨hf.os,hf.tape,hf.output,hf.size,fun g hg hn=>hf.blk g hg fun hh=>hn (hin0 g hh)⟩,fun _ h=>h,fun _ h=>.inl h,⟨?_,?_,?_,?_,?_,fun g hg=>zq1 (hm.fb g hg) hf.size,?_,hm.glob.mono (fun _ h=>h) hw⟩,?_,?_,.own rfl⟩
  ·intro b' hb';have hb2:b'≠2:=fun e=>by subst e; cases hb'
   show(if b'=2 then some r else none)=none
   rw[if_neg hb2]
  ·intro b' ty' k' h; cases h
  ·intro b' A h;obtain⟨rfl,rfl⟩:=hAo b' A h;exact⟨r,rfl,rs,by rw[hlen]; exact ho,hel⟩
  ·intro b' b'' v' v'' g _ _ h' h'' _ _;rw[(hgo _ _ h').1,(hgo _ _ h'').1]
  ·intro b' v' g _ h' hg hF;rw[(hgo _ _ h').2] at hg;rcases hb with hb | hb
   ·rw[hb] at hg; exact hFu g hF hg
   ·have:=hb g hg; have:=hm.fb g hF; omega
  ·intro b' v' h';rw[(hgo _ _ h').2];rcases ho.2 with⟨ad,h3,_⟩ | ⟨g,cap,cur,h3,_⟩ <;> rw[h3] <;> rfl
  ·intro b' v' _ hb' _;exfalso;have:b'∈[2]:=hb';simp only[zW] at this;subst this;rename_i hj _;have:(2:Nat)∈[0,1]:=hj;simp at this
  ·intro b' v' g _ h' hg;rw[(hgo _ _ h').2] at hg;rcases hb with hb | hb
   ·rw[hb] at hg; exact .inl (hin0 g hg)
   ·exact .inr (hb g hg)
 -- the value that is put in
 rcases z2.2 with⟨ad,_,hn⟩ | ⟨vb,vcap,vcur,rfl,v4,v5,v6,v7,v8⟩
 ·cases hn
 have hvs:∀j u,ys[j]? = some u->w.cell? ⟨vb,0+j,none⟩=some u:=fun j u hj=>by
  have:=z2.cells (g:=vb) rfl j u hj;rwa[zi1] at this
 have hvblk:blkOf (.slice (some ⟨vb,0,none⟩) 1 (vcap+1))=some vb:=rfl;by_cases hkl:k=l.length
 ·-- at the end
  subst hkl;obtain⟨v',w',k1,k2,k3,k4⟩:=qoB (P:=P) (w:=w) t 0 ty e.size bytes zv ht hi0 hzs hk u0 l.length xs q2 ⟨vb,0,none⟩ 1 (vcap+1) ys z2.1 (fun j u hj=>z2.cells (g:=vb) rfl j u hj) h1v (by
   have:l.length+1<=140737488355328:=zG (zT1 _ hby) c4;simp only[maxLen]; omega) c4
  have hrun:∀rt,(Builtin.append_ #[t,t] rt #[u0,.slice (some ⟨vb,0,none⟩) 1 (vcap+1)]).run P w=.ok v' w':=fun rt=>k1
  have hres:=fin v' w' (xs++ys) k2 ⟨k3.os,k3.tape,k3.output,k3.size,fun g hg hn=>k3.block g hg (fun e=>hn e.symm)⟩ k4 (by
   rw[zz (by rw[q2.1]; omega),zZ (by rw[q2.1]; omega),zM])
  rcases q2.2 with⟨ad,rfl,hn⟩ | ⟨g,cap,cur,rfl,hcur,hnc,hcm,hcs,htake⟩
  ·have hl0:l=[]:=za1 hn;subst hl0;refine(hEnd ad 0 0 vb 0 (vcap+1) w (z61 _) (by omega) (fun _=>⟨rfl,rfl⟩) v' w' hrun).mono ?_
   rintro en w1 ⟨rfl,rfl⟩
   exact hres
  ·refine(hEnd (some ⟨g,0,none⟩) l.length (cap+1) vb 0 (vcap+1) w hnc (by simp only[maxLen] at hcm; omega) (fun h=>by cases h) v' w' hrun).mono ?_
   rintro en w1 ⟨rfl,rfl⟩
   exact hres
 ·have hkl':k<l.length:=by omega
  have hsk:(k+1)*e.size=k*e.size+e.size:=by rw[z31,zx1]
  have hkk:k*e.size+e.size<=l.length*e.size:=by rw[<-hsk]; exact zA _ hkl'
  rcases q2.2 with⟨ad,_,hn⟩ | ⟨g,cap,cur,rfl,hcur,hnc,hcm,hcs,htake⟩
  ·omega
  have hxs:∀j u,xs[j]? = some u->w.cell? ⟨g,j,none⟩=some u:=fun j u hj=>by
   have:=q2.cells (g:=g) rfl j u hj;rwa[zi1,zY] at this
  have hdl:(xs.drop (k*e.size)).length=l.length*e.size-k*e.size:=by rw[z01,q2.1]
  have hn1:(l.length+1)*e.size=l.length*e.size+e.size:=by rw[z31,zx1]
  by_cases hroom:l.length+1<=cap+1
  ·-- in place
   have hspace:(l.length+1)*e.size<=cur.size:=by rw[hcs]; exact zA _ hroom
   have hne:vb≠g:=by
    intro e0;subst e0;exact absurd (hm.sep 0 1 _ _ vb hp0 hp1 hρ0 hρ1 rfl rfl) (by omega)
   have hc63:cap+1<=9223372036854775807:=by simp only[maxLen] at hcm; omega
   refine(hShift g l.length (cap+1) k vb 0 (vcap+1) xs ys w hkl' hroom hc63 hne q2.1 hyl hxs (fun j hj=>by
    simp[World.cell?,hcur,show j<cur.size by omega]) (fun j hj=>by simp[World.frozen?,hcur]) hvs h1c h1v ty ty vcur.size cur.size (by simp[World.shape?,v4]) (by simp[World.shape?,hcur]) (by omega) (by simp[World.frozen?,v4]) (by simp[World.frozen?,v4])).mono ?_
   rintro en w' ⟨rfl,rfl⟩
   have hd1:w.drew.heap[g]? = some (.cells cur ty (0,0)):=hcur;rw[qgT g _ _ _ cur ty (0,0) hd1 (by rw[hdl,hsk]; omega)]
   rw[qgT g _ _ _ _ ty (0,0) (zl2 _ g cur _ ty (0,0) hd1) (by simp; omega),setRow_setRow]
   refine fin _ _ (xs.take (k*e.size)++ys++xs.drop (k*e.size)) ⟨?_,.inr ⟨g,cap,_,rfl,zl2 _ g cur _ ty (0,0) hd1,hroom,hcm,?_,?_⟩⟩ ⟨rfl,rfl,rfl,by simp,fun q hq hn=>?_⟩ (.inl rfl) rfl
   ·rw[zd,zd,zn,hdl,hyl,q2.1]; omega
   ·simp only[zy1,zd,zn,z01,zr1,q2.1,hyl]; omega
   ·generalize hR:cur.toList.take ((k+1)*e.size)++xs.drop (k*e.size)++cur.toList.drop ((k+1)*e.size+(xs.drop (k*e.size)).length)=R;have hRl:R.length=cur.size:=by rw[<-hR]; simp only[zd,zn,z01,zr1,q2.1]; omega
    have ht1:R.take (k*e.size)=xs.take (k*e.size):=by
     rw[<-hR,zu,zg1 (by simp; omega),zF1,z91 (by omega),<-htake,zF1,z91 (by omega)]
    have ht2:(R.drop (k*e.size+ys.length)).take (l.length*e.size-k*e.size)=xs.drop (k*e.size):=by
     rw[<-hR,zu,zO1,zZ (by simp; omega),zC,hyl,<-hsk,zn,z91 (by simp; omega),Nat.sub_self,z32,zg1 (by omega),zz (by omega)]
    rw[zX2,zz (by simp; omega)]
    have e5:(l.length+1)*e.size-(R.take (k*e.size)++ys).length=l.length*e.size-k*e.size:=by
     rw[zd,zn,hyl]; omega
    show(R.take (k*e.size)++ys)++(R.drop (k*e.size+ys.length)).take _=_;rw[e5,ht2,ht1]
   ·show(w.drew.setRow g _).heap[q]? = _;rw[zn2 _ _ _ _ (fun e0=>hn (by rw[e0]; rfl))]; rfl
  ·-- a new row
   refine(hGrow g l.length (cap+1) k vb 0 (vcap+1) xs ys w hkl' hnc (by omega) c4 q2.1 hyl hxs hvs h1c h1v).mono ?_
   rintro en w' ⟨ROW,G,r1,r2,r3,r4,rfl,rfl⟩
   obtain⟨G,rfl⟩:∃G',G=G'+1:=⟨G-1,by omega⟩
   have hsp:(l.length+1)*e.size<=ROW.size:=by rw[r1]; exact zA _ r2
   have hd1:(w.alloc (.cells ROW ty)).drew.heap[w.heap.size]? = some (.cells ROW ty (0,0)):=by
    show(w.heap.push (.cells ROW ty))[w.heap.size]? = _;rw[Array.getElem?_push_size]
   rw[qgT _ _ _ _ ROW ty (0,0) hd1 (by rw[hyl]; omega)]
   have hd2:=zl2 (w.alloc (.cells ROW ty)).drew w.heap.size ROW (ROW.toList.take (k*e.size)++ys++ROW.toList.drop (k*e.size+ys.length)).toArray ty (0,0) hd1;generalize hR:ROW.toList.take (k*e.size)++ys++ROW.toList.drop (k*e.size+ys.length)=R at hd2 ⊢;have hRl:R.length=ROW.size:=by rw[<-hR]; simp; omega
   have ht0:R.take (k*e.size+ys.length)=xs.take (k*e.size)++ys:=by rw[<-hR,qxM (by simp; omega),r4]
   have hd3:((w.alloc (.cells ROW ty)).drew.setRow w.heap.size R.toArray).drew.heap[w.heap.size]? = some (.cells R.toArray ty (0,0)):=hd2;rw[qgT _ _ _ _ R.toArray ty (0,0) hd3 (by rw[hdl]; simp; omega)]
   refine fin _ _ (xs.take (k*e.size)++ys++xs.drop (k*e.size)) ⟨?_,.inr ⟨w.heap.size,G,_,rfl,zl2 _ _ _ _ ty (0,0) hd3,r2,r3,?_,?_⟩⟩ ⟨rfl,rfl,rfl,?_,fun q hq hn=>?_⟩ (.inr fun q hq=>by have hq':w.heap.size=q:=zh2 hq; omega) rfl
   ·rw[zd,zd,zn,hdl,hyl,q2.1]; omega
   ·simp only[zy1,zd,zn,z01,q2.1]; omega
   ·have:=qxM (R:=R) (vs:=xs.drop (k*e.size)) (o:=(k+1)*e.size) (by omega)
    rw[hdl] at this;rw[hn1];show(R.take ((k+1)*e.size)++xs.drop (k*e.size)++R.drop ((k+1)*e.size+(xs.drop (k*e.size)).length)).take _=_;rw[hdl,show l.length*e.size+e.size=(k+1)*e.size+(l.length*e.size-k*e.size) by omega,this,hsk,show k*e.size+e.size=k*e.size+ys.length by rw[hyl],ht0]
   ·show w.heap.size<=(World.setRow _ _ _).heap.size;rw[setRow_size];show w.heap.size<=(World.setRow _ _ _).heap.size;rw[setRow_size];show w.heap.size<=(w.heap.push _).size;simp
   ·have hqn:q≠w.heap.size:=by omega
    show(World.setRow _ _ _).heap[q]? = _;rw[zn2 _ _ _ _ hqn];show(World.setRow _ _ _).heap[q]? = _;rw[zn2 _ _ _ _ hqn];exact(qd8 w _).blk q hq id
end Go.Sq
