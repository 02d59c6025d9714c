/- The second engine, part K: operations that write: stores, new variables, arrays that are owned. No condition. -/
import Derived.Test.YtmdijohmddokhaaGreatDoorSqJ
namespace Go.Sq
open Go Go.RowKit
def asmN(e:Ty):Nat->List SV->Option (List e.den)
 | 0,[]=>some []
 | 0,_::_=>none
 | n+1,l=>match asm e l with
  | some (x,l1)=>match asmN e n l1 with
   | some r=>some (x::r)
   | none=>none
  | none=>none
def nm(d j:Nat):Nat:=(d+1)*16+j
def fresh(st:St)(d:Nat):Nat->Nat->Nat
 | 0,j=>nm d j
 | n+1,j=>bif st.d (nm d j) then fresh st d n (j+1) else nm d j
def upd:(τ:Ty)->τ.den->Nat->(τ':Ty)->τ'.den->Option τ.den
 | .pair a b,x,o,τ',y=>if h:o=0/\τ'=Ty.pair a b then some (h.2 ▸ y) else bif Nat.blt o a.size then(match upd a x.1 o τ' y with
   | some z=>some (z,x.2)
   | none=>none) else(match upd b x.2 (o-a.size) τ' y with
   | some z=>some (x.1,z)
   | none=>none)
 | .unit,_,o,τ',y=>if h:o=0/\τ'=Ty.unit then some (h.2 ▸ y) else none
 | .int k,_,o,τ',y=>if h:o=0/\τ'=Ty.int k then some (h.2 ▸ y) else none
 | .bool,_,o,τ',y=>if h:o=0/\τ'=Ty.bool then some (h.2 ▸ y) else none
 | .str,_,o,τ',y=>if h:o=0/\τ'=Ty.str then some (h.2 ▸ y) else none
 | .sl e,_,o,τ',y=>if h:o=0/\τ'=Ty.sl e then some (h.2 ▸ y) else none
 | .err,_,o,τ',y=>if h:o=0/\τ'=Ty.err then some (h.2 ▸ y) else none
 | .map k v,_,o,τ',y=>if h:o=0/\τ'=Ty.map k v then some (h.2 ▸ y) else none
 | .fnc f,_,o,τ',y=>if h:o=0/\τ'=Ty.fnc f then some (h.2 ▸ y) else none
 | .fnl f,_,o,τ',y=>if h:o=0/\τ'=Ty.fnl f then some (h.2 ▸ y) else none
 | .clo f e,_,o,τ',y=>if h:o=0/\τ'=Ty.clo f e then some (h.2 ▸ y) else none
 | .arr n e,x,o,τ',y=>if h:o=0/\τ'=Ty.arr n e then some (h.2 ▸ y) else bif Nat.blt o (n*e.size) then(match upd e (List.getD (α:=e.den) x (o/e.size) e.dflt) (o%e.size) τ' y with
   | some z=>some (List.set (α:=e.den) x (o/e.size) z)
   | none=>none) else none
section
variable {P:Program} {F:Nat->Prop} {w:World} {ρ:Env}
theorem qxj{e:Ty}:∀ {n:Nat} {l:List SV} {vs:List Value} {r:List e.den},asmN e n l=some r->l.length=vs.length->
  (∀(i:Nat) (s:SV) (u:Value),l[i]? = some s->vs[i]? = some u->Den P F w ρ s u)->r.length=n/\vs.length=n*e.size/\∀(i:Nat) (x:e.den),r[i]? = some x->RdC F w e x ((vs.drop (i*e.size)).take e.size)
 | 0,[],vs,r,h,hl,hd=>by
  simp only[asmN] at h; injection h with h; subst h
  exact⟨rfl,by rw[<-hl]; simp,fun i x hx=>by simp at hx⟩
 | 0,_::_,vs,r,h,hl,hd=>by cases h
 | n+1,l,vs,r,h,hl,hd=>by
  simp only[asmN] at h;split at h
  ·rename_i x l1 h1;split at h
   ·rename_i r' h2;injection h with h; subst h
    obtain⟨a1,a2,a3⟩:=qn3 h1 hl hd;subst a1;obtain⟨b1,b2,b3⟩:=qxj (vs:=vs.drop e.size) h2 (by simp[hl]) (fun i s u hs hu=>hd (e.size+i) s u (by simpa[zB] using hs) (by simpa[zB] using hu))
    refine⟨by simp[b1],by simp at b2; rw[z31,zx1]; omega,fun i y hy=>?_⟩
    cases i with
    | zero=>simp at hy; subst hy; simpa using a2
    | succ i=>
     have:=b3 i y (by simpa using hy)
     rw[zE1] at this;rwa[show(i+1)*e.size=e.size+i*e.size by rw[z31]; omega]
   ·cases h
  ·cases h
theorem qro:∀ {τ:Ty} {x:τ.den} {o:Nat} {τ':Ty} {y:τ'.den} {z:τ.den} {cs ds:List Value},upd τ x o τ' y=some z->RdC F w τ x cs->RdC F w τ' y ds->
  RdC F w τ z (cs.take o++ds++cs.drop (o+ds.length))/\o+ds.length<=cs.length
 | .pair a b,x,o,τ',y,z,cs,ds,h,hx,hy=>by
  simp only[upd] at h;split at h
  ·rename_i hh;obtain⟨rfl,rfl⟩:=hh;injection h with h; subst h
   have e1:=hx.size;have e2:=hy.size;exact⟨by rw[List.take_zero,zC,zZ (by omega),zM]; exact hy,by omega⟩
  ·obtain⟨c1,c2,rfl,h1,h2⟩:=hx;have hl1:=h1.size;cases hlt:Nat.blt o a.size with
   | true=>
    rw[hlt] at h; simp only[za] at h;split at h
    ·rename_i z' hz;injection h with h; subst h
     obtain⟨a1,a2⟩:=qro hz h1 hy;refine⟨⟨_,c2,?_,a1,h2⟩,by simp; omega⟩
     rw[zg1 (by omega),zN1 a2]
     simp
    ·cases h
   | false=>
    rw[hlt] at h; simp only[zb] at h;have hge:a.size<=o:=by
     rcases zb2 o a.size with h' | h'
     ·rw[show Nat.blt o a.size=true by rw[zX]; exact h'] at hlt; cases hlt
     ·exact h'
    split at h
    ·rename_i z' hz;injection h with h; subst h
     obtain⟨a1,a2⟩:=qro hz h2 hy;refine⟨⟨c1,_,?_,h1,a1⟩,by simp; omega⟩
     have e1:(c1++c2).take o=c1++c2.take (o-a.size):=by
      rw[zX2,zz (by omega),hl1]
     have e2:(c1++c2).drop (o+ds.length)=c2.drop (o-a.size+ds.length):=by
      rw[zO1,zZ (by omega),zC]; congr 1; omega
     rw[e1,e2]; simp
    ·cases h
 | .unit,x,o,τ',y,z,cs,ds,h,hx,hy=>one_upd h hx hy
 | .int k,x,o,τ',y,z,cs,ds,h,hx,hy=>one_upd h hx hy
 | .bool,x,o,τ',y,z,cs,ds,h,hx,hy=>one_upd h hx hy
 | .str,x,o,τ',y,z,cs,ds,h,hx,hy=>one_upd h hx hy
 | .sl e,x,o,τ',y,z,cs,ds,h,hx,hy=>one_upd h hx hy
 | .err,x,o,τ',y,z,cs,ds,h,hx,hy=>one_upd h hx hy
 | .map k v,x,o,τ',y,z,cs,ds,h,hx,hy=>one_upd h hx hy
 | .fnc f,x,o,τ',y,z,cs,ds,h,hx,hy=>one_upd h hx hy
 | .fnl f,x,o,τ',y,z,cs,ds,h,hx,hy=>one_upd h hx hy
 | .clo f e,x,o,τ',y,z,cs,ds,h,hx,hy=>one_upd h hx hy
 | .arr n e,x,o,τ',y,z,cs,ds,h,hx,hy=>by
  simp only[upd] at h;split at h
  ·rename_i hh;obtain⟨rfl,rfl⟩:=hh;injection h with h; subst h
   have e1:=hx.size;have e2:=hy.size;exact⟨by rw[List.take_zero,zC,zZ (by omega),zM]; exact hy,by omega⟩
  ·cases hlt:Nat.blt o (n*e.size) with
   | false=>rw[hlt] at h; cases h
   | true=>
    rw[hlt] at h; simp only[za] at h;rw[zX] at hlt;split at h
    ·rename_i z' hz;injection h with h; subst h
     have hx':RdAr e.den (RdC F w e) n x cs:=hx;have hpos:0<e.size:=by
      rcases zW1 e.size with h0 | h0
      ·rw[h0] at hlt; omega
      ·exact h0
     have hq:o/e.size<n:=(Nat.div_lt_iff_lt_mul hpos).2 hlt;obtain⟨g1,g2⟩:=RdAr.get (fun _ _ h=>RdC.size h) e.dflt hx' hq
     obtain⟨a1,a2⟩:=qro hz g1 hy;have hs:=g1.size;have hcs:=(RdAr.size (fun _ _ h=>RdC.size h) hx').1
     have hdm:=zN2 o e.size;rw[zX1] at hdm;have hfit:o/e.size*e.size+e.size<=cs.length:=by
      rw[hcs,<-zY1]; exact zA _ hq
     have hds:o%e.size+ds.length<=e.size:=by omega
     have h3:=g2 a1;refine⟨?_,by omega⟩
     have e1:cs.take o++ds++cs.drop (o+ds.length)=cs.take (o/e.size*e.size)++(((cs.drop (o/e.size*e.size)).take e.size).take (o%e.size)++ds++((cs.drop (o/e.size*e.size)).take e.size).drop (o%e.size+ds.length))++cs.drop (o/e.size*e.size+e.size):=by
      generalize o/e.size*e.size=q at*
      generalize o%e.size=m at*
      subst hdm;have t1:((cs.drop q).take e.size).take m=(cs.drop q).take m:=by rw[zF1,z91 (by omega)]
      have t2:cs.take (q+m)=cs.take q++(cs.drop q).take m:=by rw[List.take_add]
      have t3:((cs.drop q).take e.size).drop (m+ds.length)++cs.drop (q+e.size)=cs.drop (q+m+ds.length):=by
       rw[z42,zE1];have:cs.drop (q+e.size)=(cs.drop (q+(m+ds.length))).drop (e.size-(m+ds.length)):=by rw[zE1]; congr 1; omega
       rw[this,zD1]; congr 1; omega
      rw[t1,t2,<-t3]; simp only[zu]
     rw[e1]; exact h3
    ·cases h
where
 one_upd {τ:Ty} {x z:τ.den} {o:Nat} {τ':Ty} {y:τ'.den} {cs ds:List Value} (h:(if h:o=0/\τ'=τ then some (h.2 ▸ y) else none)=some z) (hx:RdC F w τ x cs) (hy:RdC F w τ' y ds):
   RdC F w τ z (cs.take o++ds++cs.drop (o+ds.length))/\o+ds.length<=cs.length:=by
  split at h
  ·rename_i hh;obtain⟨rfl,rfl⟩:=hh;injection h with h; subst h
   have e1:=hx.size;have e2:=hy.size;exact⟨by rw[List.take_zero,zC,zZ (by omega),zM]; exact hy,by omega⟩
  ·cases h
theorem qvh(t ty e:TypeId)(k bytes:Nat)(zv:Value)(ht:P.underlying t=some (.slice e))(hi0:∃i,P.info? e=some i/\i.size=k/\i.bytes=bytes/\i.zero=some zv)(hzs:zv.cells.size=k)(hsz:0<k)
  (v:Value) (n:Nat) (xs:List Value) (hown:w.ownsRow 0 e k v n xs)
  (ad:Addr) (m c:Nat) (news:List Value) (hl:news.length=m*k) (hnews:∀j u,news[j]? = some u->w.cell? (ad.add j)=some u) (h1:∀u∈news,u.oneCell'=true)
  (h63:n+m<=maxLen) (hbytes:(n+m)*bytes<=140737488355328):
  ∃v' w',(Builtin.append_ #[t,t] ty #[v,.slice (some ad) m c]).run P w=.ok v' w'/\w'.ownsRow 0 e k v' (n+m) (xs++news)/\w.grownBy w' v.ownBlock∧
   (v'.ownBlock=v.ownBlock\/∀g,v'.ownBlock=some g->w.heap.size<=g):=by
 obtain⟨i,hi,hsize,hby,hz⟩:=hi0;subst hsize;subst hby;have hsmall:n+m<=9223372036854775807:=by simp only[maxLen] at h63; omega
 have hlen:(xs++news).length=(n+m)*i.size:=by rw[zd,hown.1,hl,z31]
 have grown:∀(old:Nat),old<n+m->∀(row:Option Nat),
   (w.drew.alloc (.cells (xs.toArray++news.toArray++Builtin.zeroCells zv.cells (grownCap w (n+m) old e-(n+m))) e)).ownsRow 0 e i.size
    (.slice (some ⟨w.heap.size,0,none⟩) (n+m) (grownCap w (n+m) old e)) (n+m) (xs++news)∧
   w.grownBy (w.drew.alloc (.cells (xs.toArray++news.toArray++Builtin.zeroCells zv.cells (grownCap w (n+m) old e-(n+m))) e)) row:=by
  intro old ho row;have hge:=grownCap_ge w (n+m) old e;have hcm:grownCap w (n+m) old e<=maxLen:=zx2 w (n+m) old e h63;refine⟨⟨hlen,.inr ⟨w.heap.size,_,_,rfl,zu1 _,zm2 w.drew _,hge,hcm,?_,?_⟩⟩,⟨rfl,rfl,rfl,by simp,fun k hk _=>zB1 w.drew _ k hk⟩⟩
  ·simp only[z02,zy1,zS2,hzs,hown.1,hl,<-z31];congr 1;omega
  ·simp only[zK2,zu];rw[<-zu,<-hlen];exact zB2
 rcases hown.2 with⟨rfl,rfl⟩ | ⟨g,cap,cur,rfl,hbg,hg,hnc,hcm,hcs,htake⟩
 ·have hx:xs=[]:=za1 (by simpa using hown.1)
  subst hx;by_cases hm:m=0
  ·subst hm;have hn:news=[]:=za1 (by simpa using hl)
   subst hn;refine⟨.slice none 0 0,w,?_,World.ownsRow_nil w 0 e i.size,⟨rfl,rfl,rfl,z61 _,fun _ _ _=>rfl⟩,.inl rfl⟩
   simp[Builtin.append_,zt ht,sizeOf,typeInfo,hi,Builtin.lenOf,Builtin.firstCells,loadCells,loadCellsFrom]
  ·have hr:=run_append_nil (P:=P) w t ty e i zv ht hi hz ad m c news hl hnews (by omega) (by omega) (by have hb:=hbytes; simp only[zY] at hb; omega)
   have hgr:=grown 0 (by omega) (Value.ownBlock (.slice none 0 0))
   simp only[zY,zC,Array.empty_append] at hgr ⊢;exact⟨_,_,hr,hgr.1,hgr.2,.inr (fun g hg=>by simp[Value.ownBlock] at hg; omega)⟩
 ·by_cases hroom:n+m<=cap
  ·have hfit:n*i.size+news.length<=cur.size:=by rw[hl,hcs,<-z31]; exact zA _ hroom
   have hr:=run_append_room (P:=P) w t ty e i ht hi g n cap cur hg ad m c news hl hnews h1 hroom hfit;refine⟨_,_,hr,⟨hlen,.inr ⟨g,cap,_,rfl,hbg,zl2 w g cur _ e _ hg,hroom,hcm,?_,?_⟩⟩,⟨rfl,rfl,rfl,by simp,fun k _ hk=>zn2 w g k _ (fun e=>hk (by simp[Value.ownBlock,e]))⟩,.inl rfl⟩
   ·simp only[zy1,zd,zn,z01,zr1];omega
   ·rw[htake,<-hlen];exact zB2
  ·have holds:∀j u,xs[j]? = some u->w.cell? ((⟨g,0,none⟩:Addr).add j)=some u:=hown.cells (g:=g) rfl;have hr:=run_append_grow (P:=P) w t ty e i zv ht hi hz ⟨g,0,none⟩ n cap xs hown.1 holds ad m c news hl hnews (by omega) (by omega) (growslice_fits (by omega) hbytes)
   have hgr:=grown cap (by omega) (Value.ownBlock (.slice (some ⟨g,0,none⟩) n cap))
   exact⟨_,_,hr,hgr.1,hgr.2,.inr (fun g' hg'=>by simp[Value.ownBlock] at hg'; omega)⟩
theorem append_nil(t ty e:TypeId)(k bytes:Nat)(zv:Value)(ht:P.underlying t=some (.slice e))(hi0:∃i,P.info? e=some i/\i.size=k/\i.bytes=bytes/\i.zero=some zv)
  (v:Value) (n:Nat) (xs:List Value) (hown:w.ownsRow 0 e k v n xs) (c:Nat):(Builtin.append_ #[t,t] ty #[v,.slice none 0 c]).run P w=.ok v w:=by
 obtain⟨i,hi,_⟩:=hi0;rcases hown.2 with⟨rfl,rfl⟩ | ⟨g,cap,cur,rfl,_,_,hnc,_⟩
 ·simp[Builtin.append_,zt ht,sizeOf,typeInfo,hi,Builtin.lenOf,Builtin.firstCells]
 ·simp[Builtin.append_,zt ht,sizeOf,typeInfo,hi,Builtin.lenOf,Builtin.firstCells,hnc,storeCells]
theorem own_blk'{e:TypeId}{k:Nat}{v:Value}{n:Nat}{xs:List Value}(h:w.ownsRow 0 e k v n xs):blkOf v=v.ownBlock\/(blkOf v=none/\n=0):=by
 rcases h.2 with⟨rfl,hn⟩ | ⟨g,cap,cur,rfl,_,_,hc,_⟩
 ·exact .inl rfl
 ·cases cap with
  | zero=>exact .inr ⟨rfl,by omega⟩
  | succ cap=>exact .inl rfl
theorem qoB(t ty e:TypeId)(k bytes:Nat)(zv:Value)(ht:P.underlying t=some (.slice e))(hi0:∃i,P.info? e=some i/\i.size=k/\i.bytes=bytes/\i.zero=some zv)(hzs:zv.cells.size=k)(hsz:0<k)
  (v:Value) (n:Nat) (xs:List Value) (hown:OwnR w e k v n xs)
  (ad:Addr) (m c:Nat) (news:List Value) (hl:news.length=m*k) (hnews:∀j u,news[j]? = some u->w.cell? (ad.add j)=some u) (h1:∀u∈news,u.oneCell'=true)
  (h63:n+m<=maxLen) (hbytes:(n+m)*bytes<=140737488355328):
  ∃v' w',(Builtin.append_ #[t,t] ty #[v,.slice (some ad) m c]).run P w=.ok v' w'/\OwnR w' e k v' (n+m) (xs++news)/\w.grownBy w' (blkOf v)∧
   (blkOf v'=blkOf v\/∀g,blkOf v'=some g->w.heap.size<=g):=by
 have fin:∀ {v:Value} {xs:List Value},w.ownsRow 0 e k v n xs->blkOf v=v.ownBlock->∃v' w',(Builtin.append_ #[t,t] ty #[v,.slice (some ad) m c]).run P w=.ok v' w'/\OwnR w' e k v' (n+m) (xs++news)/\w.grownBy w' (blkOf v)∧
   (blkOf v'=blkOf v\/∀g,blkOf v'=some g->w.heap.size<=g):=by
  intro v xs ho hb;obtain⟨v',w',k1,k2,k3,k4⟩:=qvh t ty e k bytes zv ht hi0 hzs hsz v n xs ho ad m c news hl hnews h1 h63 hbytes;refine⟨v',w',k1,.of k2,by rw[hb]; exact k3,?_⟩
  rcases own_blk' k2 with h | ⟨h,_⟩
  ·rw[h,hb]; exact k4
  ·right; intro g hg; rw[h] at hg; cases hg
 rcases hown.to with⟨a0,rfl,hn,hx⟩ | ⟨ho,g,cap,hv⟩
 ·subst hn hx;cases a0 with
  | none=>exact fin (World.ownsRow_nil w 0 e k) rfl
  | some a=>
   obtain⟨i,hi,hsize,hby,hz⟩:=hi0;subst hsize;subst hby;by_cases hm:m=0
   ·subst hm;have hn:news=[]:=za1 (by simpa using hl)
    subst hn;refine⟨.slice (some a) 0 0,w,?_,OwnR.nil w e i.size (some a),⟨rfl,rfl,rfl,z61 _,fun _ _ _=>rfl⟩,.inl rfl⟩
    simp[Builtin.append_,zt ht,sizeOf,typeInfo,hi,Builtin.lenOf,Builtin.firstCells,loadCells,loadCellsFrom,storeCells]
   ·have hsmall:0+m<=9223372036854775807:=by simp only[maxLen] at h63; omega
    have hr:=run_append_grow (P:=P) w t ty e i zv ht hi hz a 0 0 [] (by simp) (fun j u h=>by simp at h) ad m c news hl hnews (by omega) (by omega) (growslice_fits (by omega) hbytes)
    have hge:=grownCap_ge w (0+m) 0 e;have hcm:grownCap w (0+m) 0 e<=maxLen:=zx2 w (0+m) 0 e h63;refine⟨_,_,hr,.of ⟨by simpa using hl,.inr ⟨w.heap.size,_,_,rfl,zu1 _,zm2 w.drew _,hge,hcm,?_,?_⟩⟩,⟨rfl,rfl,rfl,by simp,fun k hk _=>zB1 w.drew _ k hk⟩,.inr fun g hg=>by rw[qor hg]; exact z61 _⟩
    ·simp only[z02,zy1,zS2,hzs,hl,zx,zY,<-z31];congr 1;simp only[zY] at hge;omega
    ·simp only[zK2,zu,zC];rw[zY,<-hl];exact zB2
 ·subst hv;exact fin ho rfl
theorem qwq(t ty e:TypeId)(k bytes:Nat)(zv:Value)(ht:P.underlying t=some (.slice e))(hi0:∃i,P.info? e=some i/\i.size=k/\i.bytes=bytes/\i.zero=some zv)
  (v:Value) (n:Nat) (xs:List Value) (hown:OwnR w e k v n xs) (c:Nat):(Builtin.append_ #[t,t] ty #[v,.slice none 0 c]).run P w=.ok v w:=by
 rcases hown.to with⟨a0,rfl,hn,hx⟩ | ⟨ho,_⟩
 ·subst hn hx;obtain⟨i,hi,_⟩:=hi0;cases a0 <;> simp[Builtin.append_,zt ht,sizeOf,typeInfo,hi,Builtin.lenOf,Builtin.firstCells,storeCells]
 ·exact append_nil t ty e k bytes zv ht hi0 v n xs ho c
theorem qvi(t ty e:TypeId)(k bytes:Nat)(zv:Value)(ht:P.underlying t=some (.slice e))(hi0:∃i,P.info? e=some i/\i.size=k/\i.bytes=bytes/\i.zero=some zv)(hzs:zv.cells.size=k)(hsz:0<k)
  (a0:Option Addr) (n:Nat) (xs:List Value) (hxl:xs.length=n*k) (hxs:∀j u,xs[j]? = some u->∃a,a0=some a/\w.cell? (a.add j)=some u)
  (ad:Addr) (m c:Nat) (news:List Value) (hl:news.length=m*k) (hnews:∀j u,news[j]? = some u->w.cell? (ad.add j)=some u) (hm:0<m) (hn0:a0=none->n=0)
  (h63:n+m<=maxLen) (hbytes:(n+m)*bytes<=140737488355328):
  ∃v' w',(Builtin.append_ #[t,t] ty #[.slice a0 n n,.slice (some ad) m c]).run P w=.ok v' w'/\OwnR w' e k v' (n+m) (xs++news)/\w.grownBy w' none/\∀g,blkOf v'=some g->w.heap.size<=g:=by
 obtain⟨i,hi,hsize,hby,hz⟩:=hi0;subst hsize;subst hby;have hsmall:n+m<=9223372036854775807:=by simp only[maxLen] at h63; omega
 have hlen:(xs++news).length=(n+m)*i.size:=by rw[zd,hxl,hl,z31]
 have hge:=grownCap_ge w (n+m) n e;have hcm:grownCap w (n+m) n e<=maxLen:=zx2 w (n+m) n e h63;have fin:OwnR (w.drew.alloc (.cells (xs.toArray++news.toArray++Builtin.zeroCells zv.cells (grownCap w (n+m) n e-(n+m))) e)) e i.size (.slice (some ⟨w.heap.size,0,none⟩) (n+m) (grownCap w (n+m) n e)) (n+m) (xs++news):=by
  refine .of ⟨hlen,.inr ⟨w.heap.size,_,_,rfl,zu1 _,zm2 w.drew _,hge,hcm,?_,?_⟩⟩
  ·simp only[z02,zy1,zS2,hzs,hxl,hl,<-z31];congr 1;omega
  ·simp only[zK2,zu];rw[<-zu,<-hlen];exact zB2
 have hgr:w.grownBy (w.drew.alloc (.cells (xs.toArray++news.toArray++Builtin.zeroCells zv.cells (grownCap w (n+m) n e-(n+m))) e)) none:=⟨rfl,rfl,rfl,by simp,fun k hk _=>zB1 w.drew _ k hk⟩
 have hbk:∀g,blkOf (.slice (some ⟨w.heap.size,0,none⟩) (n+m) (grownCap w (n+m) n e))=some g->w.heap.size<=g:=by
  intro g hg;rw[qor hg]; exact z61 _
 cases a0 with
 | none=>
  have hn:=hn0 rfl;subst hn;have hx:xs=[]:=za1 (by simpa using hxl)
  subst hx;have hr:=run_append_nil (P:=P) w t ty e i zv ht hi hz ad m c news hl hnews (by omega) (by omega) (by have hb:=hbytes; simp only[zY] at hb; omega)
  simp only[zY,zC,Array.empty_append] at fin hgr hbk ⊢;exact⟨_,_,hr,fin,hgr,hbk⟩
 | some a=>
  have hr:=run_append_grow (P:=P) w t ty e i zv ht hi hz a n n xs hxl (fun j u h=>by obtain⟨a',e1,e2⟩:=hxs j u h; injection e1 with e1; subst e1; exact e2) ad m c news hl hnews (by omega) (by omega) (growslice_fits (by omega) hbytes)
  exact⟨_,_,hr,fin,hgr,hbk⟩
end
end Go.Sq
