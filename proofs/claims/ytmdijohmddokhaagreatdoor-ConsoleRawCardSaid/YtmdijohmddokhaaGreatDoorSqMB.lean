/- Lemmas. No condition. -/
import Derived.Test.YtmdijohmddokhaaGreatDoorSqJ
import Derived.Lib.AppendZerosOnto
import Derived.Lib.AppendStr
import Derived.Lib.UnsafeStr
import Derived.Laws.BytesArg
namespace Go.Sq
open Go Go.RowKit
def asmN(e:Ty):Nat->List SV->Option (List e.den)
 | 0,[]=>some []
 | 0,_::_=>none
 | n+1,l=>match asm e l with
  | some (x,l1)=>match asmN e n l1 with
   | some r=>some (x::r)
   | none=>none
  | none=>none
def nm(d j:Nat):Nat:=(d+1)*16+j
def fresh(st:St)(d:Nat):Nat->Nat->Nat
 | 0,j=>nm d j
 | n+1,j=>bif st.d (nm d j) then fresh st d n (j+1) else nm d j
def upd:(T:Ty)->T.den->Nat->(T':Ty)->T'.den->Option T.den
 | .pair a b,x,o,T',y=>if h:o=0/\T'=Ty.pair a b then some (h.2 ▸ y) else bif Nat.blt o a.size then(match upd a x.1 o T' y with
   | some z=>some (z,x.2)
   | none=>none) else(match upd b x.2 (o-a.size) T' y with
   | some z=>some (x.1,z)
   | none=>none)
 | .unit,_,o,T',y=>if h:o=0/\T'=Ty.unit then some (h.2 ▸ y) else none
 | .int k,_,o,T',y=>if h:o=0/\T'=Ty.int k then some (h.2 ▸ y) else none
 | .bool,_,o,T',y=>if h:o=0/\T'=Ty.bool then some (h.2 ▸ y) else none
 | .str,_,o,T',y=>if h:o=0/\T'=Ty.str then some (h.2 ▸ y) else none
 | .sl e,_,o,T',y=>if h:o=0/\T'=Ty.sl e then some (h.2 ▸ y) else none
 | .err,_,o,T',y=>if h:o=0/\T'=Ty.err then some (h.2 ▸ y) else none
 | .map k v,_,o,T',y=>if h:o=0/\T'=Ty.map k v then some (h.2 ▸ y) else none
 | .fnc f,_,o,T',y=>if h:o=0/\T'=Ty.fnc f then some (h.2 ▸ y) else none
 | .fnl f,_,o,T',y=>if h:o=0/\T'=Ty.fnl f then some (h.2 ▸ y) else none
 | .clo f e,_,o,T',y=>if h:o=0/\T'=Ty.clo f e then some (h.2 ▸ y) else none
 | .arr n e,x,o,T',y=>if h:o=0/\T'=Ty.arr n e then some (h.2 ▸ y) else bif Nat.blt o (n*e.size) then(match upd e (List.getD (α:=e.den) x (o/e.size) e.dflt) (o%e.size) T' y with
   | some z=>some (List.set (α:=e.den) x (o/e.size) z)
   | none=>none) else none
section
variable {P:Program} {F:Nat->Prop} {w:World} {U:Env}
theorem qxN{e:Ty}:∀ {n:Nat} {l:List SV} {vs:List Value} {r:List e.den},asmN e n l=some r->l.length=vs.length->
  (∀(i:Nat) (s:SV) (u:Value),l[i]? = some s->vs[i]? = some u->Den P F w U s u)->r.length=n/\vs.length=n*e.size/\∀(i:Nat) (x:e.den),r[i]? = some x->RdC F w e x ((vs.drop (i*e.size)).take e.size)
 | 0,[],vs,r,h,hl,hd=>by
  simp only[asmN] at h; cases h
  exact⟨rfl,by rw[<-hl]; simp,fun i x hx=>by simp at hx⟩
 | 0,_::_,vs,r,h,hl,hd=>by cases h
 | n+1,l,vs,r,h,hl,hd=>by
  simp only[asmN] at h;split at h
  ·rename_i x l1 h1;split at h
   ·rename_i r' h2;cases h
    obtain⟨a1,a2,a3⟩:=qom h1 hl hd;subst a1;obtain⟨b1,b2,b3⟩:=qxN (vs:=vs.drop e.size) h2 (by simp[hl]) (fun i s u hs hu=>hd (e.size+i) s u (by simpa[zE] using hs) (by simpa[zE] using hu))
    refine⟨by simp[b1],by simp at b2; rw[z61,zH1]; omega,fun i y hy=>?_⟩
    cases i with
    | zero=>simp at hy; subst hy; simpa using a2
    | succ i=>
     have:=b3 i y (by simpa using hy)
     rw[zI1] at this;rwa[show(i+1)*e.size=e.size+i*e.size by rw[z61]; omega]
   ·cases h
  ·cases h
theorem qrM:∀ {T:Ty} {x:T.den} {o:Nat} {T':Ty} {y:T'.den} {z:T.den} {cs ds:List Value},upd T x o T' y=some z->RdC F w T x cs->RdC F w T' y ds->
  RdC F w T z (cs.take o++ds++cs.drop (o+ds.length))/\o+ds.length<=cs.length
 | .pair a b,x,o,T',y,z,cs,ds,h,hx,hy=>by
  simp only[upd] at h;split at h
  ·rename_i hh;obtain⟨rfl,rfl⟩:=hh;cases h
   have e1:=hx.size;have e2:=hy.size;exact⟨by rw[List.take_zero,zF,z21 (by omega),zG]; exact hy,by omega⟩
  ·obtain⟨c1,c2,rfl,h1,h2⟩:=hx;have hl1:=h1.size;cases hlt:Nat.blt o a.size with
   | true=>
    rw[hlt] at h; simp only[zb] at h;split at h
    ·rename_i z' hz;cases h
     obtain⟨a1,a2⟩:=qrM hz h1 hy;refine⟨⟨_,c2,?_,a1,h2⟩,by simp; omega⟩
     rw[zl1 (by omega),zx1 a2]
     simp
    ·cases h
   | false=>
    rw[hlt] at h; simp only[zc] at h;have hge:a.size<=o:=by
     rcases zH2 o a.size with h' | h'
     ·rw[show Nat.blt o a.size=true by rw[zS]; exact h'] at hlt; cases hlt
     ·exact h'
    split at h
    ·rename_i z' hz;cases h
     obtain⟨a1,a2⟩:=qrM hz h2 hy;refine⟨⟨c1,_,?_,h1,a1⟩,by simp; omega⟩
     have e1:(c1++c2).take o=c1++c2.take (o-a.size):=by
      rw[zT2,zB (by omega),hl1]
     have e2:(c1++c2).drop (o+ds.length)=c2.drop (o-a.size+ds.length):=by
      rw[zW1,z21 (by omega),zF]; congr 1; omega
     rw[e1,e2]; simp
    ·cases h
 | .unit,x,o,T',y,z,cs,ds,h,hx,hy=>one_upd h hx hy
 | .int k,x,o,T',y,z,cs,ds,h,hx,hy=>one_upd h hx hy
 | .bool,x,o,T',y,z,cs,ds,h,hx,hy=>one_upd h hx hy
 | .str,x,o,T',y,z,cs,ds,h,hx,hy=>one_upd h hx hy
 | .sl e,x,o,T',y,z,cs,ds,h,hx,hy=>one_upd h hx hy
 | .err,x,o,T',y,z,cs,ds,h,hx,hy=>one_upd h hx hy
 | .map k v,x,o,T',y,z,cs,ds,h,hx,hy=>one_upd h hx hy
 | .fnc f,x,o,T',y,z,cs,ds,h,hx,hy=>one_upd h hx hy
 | .fnl f,x,o,T',y,z,cs,ds,h,hx,hy=>one_upd h hx hy
 | .clo f e,x,o,T',y,z,cs,ds,h,hx,hy=>one_upd h hx hy
 | .arr n e,x,o,T',y,z,cs,ds,h,hx,hy=>by
  simp only[upd] at h;split at h
  ·rename_i hh;obtain⟨rfl,rfl⟩:=hh;cases h
   have e1:=hx.size;have e2:=hy.size;exact⟨by rw[List.take_zero,zF,z21 (by omega),zG]; exact hy,by omega⟩
  ·cases hlt:Nat.blt o (n*e.size) with
   | false=>rw[hlt] at h; cases h
   | true=>
    rw[hlt] at h; simp only[zb] at h;rw[zS] at hlt;split at h
    ·rename_i z' hz;cases h
     have hx':RdAr e.den (RdC F w e) n x cs:=hx;have hpos:0<e.size:=by
      rcases za2 e.size with h0 | h0
      ·rw[h0] at hlt; omega
      ·exact h0
     have hq:o/e.size<n:=(Nat.div_lt_iff_lt_mul hpos).2 hlt;obtain⟨g1,g2⟩:=RdAr.get (fun _ _ h=>RdC.size h) e.dflt hx' hq
     obtain⟨a1,a2⟩:=qrM hz g1 hy;have hs:=g1.size;have hcs:=(RdAr.size (fun _ _ h=>RdC.size h) hx').1
     have hdm:=z13 o e.size;rw[zd2] at hdm;have hfit:o/e.size*e.size+e.size<=cs.length:=by
      rw[hcs,<-ze2]; exact zD _ hq
     have hds:o%e.size+ds.length<=e.size:=by omega
     have h3:=g2 a1;refine⟨?_,by omega⟩
     have e1:cs.take o++ds++cs.drop (o+ds.length)=cs.take (o/e.size*e.size)++(((cs.drop (o/e.size*e.size)).take e.size).take (o%e.size)++ds++((cs.drop (o/e.size*e.size)).take e.size).drop (o%e.size+ds.length))++cs.drop (o/e.size*e.size+e.size):=by
      generalize o/e.size*e.size=q at*
      generalize o%e.size=m at*
      subst hdm;have t1:((cs.drop q).take e.size).take m=(cs.drop q).take m:=by rw[zO1,ze1 (by omega)]
      have t2:cs.take (q+m)=cs.take q++(cs.drop q).take m:=by rw[zb3]
      have t3:((cs.drop q).take e.size).drop (m+ds.length)++cs.drop (q+e.size)=cs.drop (q+m+ds.length):=by
       rw[zY1,zI1];have:cs.drop (q+e.size)=(cs.drop (q+(m+ds.length))).drop (e.size-(m+ds.length)):=by rw[zI1]; congr 1; omega
       rw[this,zS1]; congr 1; omega
      rw[t1,t2,<-t3]; simp only[zw]
     rw[e1]; exact h3
    ·cases h
where
 one_upd {T:Ty} {x z:T.den} {o:Nat} {T':Ty} {y:T'.den} {cs ds:List Value} (h:(if h:o=0/\T'=T then some (h.2 ▸ y) else none)=some z) (hx:RdC F w T x cs) (hy:RdC F w T' y ds):
   RdC F w T z (cs.take o++ds++cs.drop (o+ds.length))/\o+ds.length<=cs.length:=by
  split at h
  ·rename_i hh;obtain⟨rfl,rfl⟩:=hh;cases h
   have e1:=hx.size;have e2:=hy.size;exact⟨by rw[List.take_zero,zF,z21 (by omega),zG]; exact hy,by omega⟩
  ·cases h
theorem qvF(t ty e:TypeId)(k bytes:Nat)(zv:Value)(ht:P.underlying t=some (.slice e))(hi0:∃i,P.info? e=some i/\i.size=k/\i.bytes=bytes/\i.zero=some zv)(hzs:zv.cells.size=k)(hsz:0<k)
  (v:Value) (n:Nat) (xs:List Value) (hown:w.ownsRow 0 e k v n xs)
  (ad:Addr) (m c:Nat) (news:List Value) (hl:news.length=m*k) (hnews:∀j u,news[j]? = some u->w.cell? (ad.add j)=some u) (h1:∀u∈news,u.oneCell'=true)
  (h63:n+m<=maxLen) (hbytes:(n+m)*bytes<=140737488355328):
  ∃v' w',(Builtin.append_ #[t,t] ty #[v,.slice (some ad) m c]).run P w=.ok v' w'/\w'.ownsRow 0 e k v' (n+m) (xs++news)/\w.grownBy w' v.ownBlock∧
   (v'.ownBlock=v.ownBlock\/∀g,v'.ownBlock=some g->w.heap.size<=g):=by
 obtain⟨i,hi,hsize,hby,hz⟩:=hi0;subst hsize;subst hby;have hsmall:n+m<=9223372036854775807:=by simp only[maxLen] at h63; omega
 have hlen:(xs++news).length=(n+m)*i.size:=by rw[ze,hown.1,hl,z61]
 have grown:∀(old:Nat),old<n+m->∀(row:Option Nat),
   (w.drew.alloc (.cells (xs.toArray++news.toArray++Builtin.zeroCells zv.cells (grownCap w (n+m) old e-(n+m))) e)).ownsRow 0 e i.size
    (.slice (some ⟨w.heap.size,0,none⟩) (n+m) (grownCap w (n+m) old e)) (n+m) (xs++news)∧
   w.grownBy (w.drew.alloc (.cells (xs.toArray++news.toArray++Builtin.zeroCells zv.cells (grownCap w (n+m) old e-(n+m))) e)) row:=by
  intro old ho row;have hge:=z93 w (n+m) old e;have hcm:grownCap w (n+m) old e<=maxLen:=zz2 w (n+m) old e h63;refine⟨⟨hlen,.inr ⟨w.heap.size,_,_,rfl,zN _,zm2 w.drew _,hge,hcm,?_,?_⟩⟩,⟨rfl,rfl,rfl,by simp,fun k hk _=>zJ1 w.drew _ k hk⟩⟩
  ·simp only[z62,zA1,zP2,hzs,hown.1,hl,<-z61];congr 1;omega
  ·simp only[zJ2,zw];rw[<-zw,<-hlen];exact zb2
 rcases hown.2 with⟨rfl,rfl⟩ | ⟨g,cap,cur,rfl,hbg,hg,hnc,hcm,hcs,htake⟩
 ·have hx:xs=[]:=zk1 (by simpa using hown.1)
  subst hx;by_cases hm:m=0
  ·subst hm;have hn:news=[]:=zk1 (by simpa using hl)
   subst hn;refine⟨.slice none 0 0,w,?_,World.ownsRow_nil w 0 e i.size,⟨rfl,rfl,rfl,zP _,fun _ _ _=>rfl⟩,.inl rfl⟩
   simp[Builtin.append_,zu ht,sizeOf,typeInfo,hi,Builtin.lenOf,Builtin.firstCells,loadCells,loadCellsFrom]
  ·have hr:=run_append_nil (P:=P) w t ty e i zv ht hi hz ad m c news hl hnews (by omega) (by omega) (by have hb:=hbytes; simp only[z11] at hb; omega)
   have hgr:=grown 0 (by omega) (Value.ownBlock (.slice none 0 0))
   simp only[z11,zF,Array.empty_append] at hgr ⊢;exact⟨_,_,hr,hgr.1,hgr.2,.inr (fun g hg=>by simp[Value.ownBlock] at hg; omega)⟩
 ·by_cases hroom:n+m<=cap
  ·have hfit:n*i.size+news.length<=cur.size:=by rw[hl,hcs,<-z61]; exact zD _ hroom
   have hr:=run_append_room (P:=P) w t ty e i ht hi g n cap cur hg ad m c news hl hnews h1 hroom hfit;refine⟨_,_,hr,⟨hlen,.inr ⟨g,cap,_,rfl,hbg,zs2 w g cur _ e _ hg,hroom,hcm,?_,?_⟩⟩,⟨rfl,rfl,rfl,by simp,fun k _ hk=>zy2 w g k _ (fun e=>hk (by simp[Value.ownBlock,e]))⟩,.inl rfl⟩
   ·simp only[zA1,ze,zm,zR,zn1];omega
   ·rw[htake,<-hlen];exact zb2
  ·have holds:∀j u,xs[j]? = some u->w.cell? ((⟨g,0,none⟩:Addr).add j)=some u:=hown.cells (g:=g) rfl;have hr:=run_append_grow (P:=P) w t ty e i zv ht hi hz ⟨g,0,none⟩ n cap xs hown.1 holds ad m c news hl hnews (by omega) (by omega) (zQ2 (by omega) hbytes)
   have hgr:=grown cap (by omega) (Value.ownBlock (.slice (some ⟨g,0,none⟩) n cap))
   exact⟨_,_,hr,hgr.1,hgr.2,.inr (fun g' hg'=>by simp[Value.ownBlock] at hg'; omega)⟩
theorem append_nil(t ty e:TypeId)(k bytes:Nat)(zv:Value)(ht:P.underlying t=some (.slice e))(hi0:∃i,P.info? e=some i/\i.size=k/\i.bytes=bytes/\i.zero=some zv)
  (v:Value) (n:Nat) (xs:List Value) (hown:w.ownsRow 0 e k v n xs) (c:Nat):(Builtin.append_ #[t,t] ty #[v,.slice none 0 c]).run P w=.ok v w:=by
 obtain⟨i,hi,_⟩:=hi0;rcases hown.2 with⟨rfl,rfl⟩ | ⟨g,cap,cur,rfl,_,_,hnc,_⟩
 ·simp[Builtin.append_,zu ht,sizeOf,typeInfo,hi,Builtin.lenOf,Builtin.firstCells]
 ·simp[Builtin.append_,zu ht,sizeOf,typeInfo,hi,Builtin.lenOf,Builtin.firstCells,hnc,storeCells]
theorem own_blk'{e:TypeId}{k:Nat}{v:Value}{n:Nat}{xs:List Value}(h:w.ownsRow 0 e k v n xs):blkOf v=v.ownBlock\/(blkOf v=none/\n=0):=by
 rcases h.2 with⟨rfl,hn⟩ | ⟨g,cap,cur,rfl,_,_,hc,_⟩
 ·exact .inl rfl
 ·cases cap with
  | zero=>exact .inr ⟨rfl,by omega⟩
  | succ cap=>exact .inl rfl
theorem qoT(t ty e:TypeId)(k bytes:Nat)(zv:Value)(ht:P.underlying t=some (.slice e))(hi0:∃i,P.info? e=some i/\i.size=k/\i.bytes=bytes/\i.zero=some zv)(hzs:zv.cells.size=k)(hsz:0<k)
  (v:Value) (n:Nat) (xs:List Value) (hown:OwnR w e k v n xs)
  (ad:Addr) (m c:Nat) (news:List Value) (hl:news.length=m*k) (hnews:∀j u,news[j]? = some u->w.cell? (ad.add j)=some u) (h1:∀u∈news,u.oneCell'=true)
  (h63:n+m<=maxLen) (hbytes:(n+m)*bytes<=140737488355328):
  ∃v' w',(Builtin.append_ #[t,t] ty #[v,.slice (some ad) m c]).run P w=.ok v' w'/\OwnR w' e k v' (n+m) (xs++news)/\w.grownBy w' (blkOf v)∧
   (blkOf v'=blkOf v\/∀g,blkOf v'=some g->w.heap.size<=g):=by
 have fin:∀ {v:Value} {xs:List Value},w.ownsRow 0 e k v n xs->blkOf v=v.ownBlock->∃v' w',(Builtin.append_ #[t,t] ty #[v,.slice (some ad) m c]).run P w=.ok v' w'/\OwnR w' e k v' (n+m) (xs++news)/\w.grownBy w' (blkOf v)∧
   (blkOf v'=blkOf v\/∀g,blkOf v'=some g->w.heap.size<=g):=by
  intro v xs ho hb;obtain⟨v',w',k1,k2,k3,k4⟩:=qvF t ty e k bytes zv ht hi0 hzs hsz v n xs ho ad m c news hl hnews h1 h63 hbytes;refine⟨v',w',k1,.of k2,by rw[hb]; exact k3,?_⟩
  rcases own_blk' k2 with h | ⟨h,_⟩
  ·rw[h,hb]; exact k4
  ·right; intro g hg; rw[h] at hg; cases hg
 rcases hown.to with⟨a0,rfl,hn,hx⟩ | ⟨ho,g,cap,hv⟩
 ·subst hn hx;cases a0 with
  | none=>exact fin (World.ownsRow_nil w 0 e k) rfl
  | some a=>
   obtain⟨i,hi,hsize,hby,hz⟩:=hi0;subst hsize;subst hby;by_cases hm:m=0
   ·subst hm;have hn:news=[]:=zk1 (by simpa using hl)
    subst hn;refine⟨.slice (some a) 0 0,w,?_,OwnR.nil w e i.size (some a),⟨rfl,rfl,rfl,zP _,fun _ _ _=>rfl⟩,.inl rfl⟩
    simp[Builtin.append_,zu ht,sizeOf,typeInfo,hi,Builtin.lenOf,Builtin.firstCells,loadCells,loadCellsFrom,storeCells]
   ·have hsmall:0+m<=9223372036854775807:=by simp only[maxLen] at h63; omega
    have hr:=run_append_grow (P:=P) w t ty e i zv ht hi hz a 0 0 [] (by simp) (fun j u h=>by simp at h) ad m c news hl hnews (by omega) (by omega) (zQ2 (by omega) hbytes)
    have hge:=z93 w (0+m) 0 e;have hcm:grownCap w (0+m) 0 e<=maxLen:=zz2 w (0+m) 0 e h63;refine⟨_,_,hr,.of ⟨by simpa using hl,.inr ⟨w.heap.size,_,_,rfl,zN _,zm2 w.drew _,hge,hcm,?_,?_⟩⟩,⟨rfl,rfl,rfl,by simp,fun k hk _=>zJ1 w.drew _ k hk⟩,.inr fun g hg=>by rw[qmS hg]; exact zP _⟩
    ·simp only[z62,zA1,zP2,hzs,hl,zo,z11,<-z61];congr 1;simp only[z11] at hge;omega
    ·simp only[zJ2,zw,zF];rw[z11,<-hl];exact zb2
 ·subst hv;exact fin ho rfl
theorem qwN(t ty e:TypeId)(k bytes:Nat)(zv:Value)(ht:P.underlying t=some (.slice e))(hi0:∃i,P.info? e=some i/\i.size=k/\i.bytes=bytes/\i.zero=some zv)
  (v:Value) (n:Nat) (xs:List Value) (hown:OwnR w e k v n xs) (c:Nat):(Builtin.append_ #[t,t] ty #[v,.slice none 0 c]).run P w=.ok v w:=by
 rcases hown.to with⟨a0,rfl,hn,hx⟩ | ⟨ho,_⟩
 ·subst hn hx;obtain⟨i,hi,_⟩:=hi0;cases a0 <;> simp[Builtin.append_,zu ht,sizeOf,typeInfo,hi,Builtin.lenOf,Builtin.firstCells,storeCells]
 ·exact append_nil t ty e k bytes zv ht hi0 v n xs ho c
theorem qvG(t ty e:TypeId)(k bytes:Nat)(zv:Value)(ht:P.underlying t=some (.slice e))(hi0:∃i,P.info? e=some i/\i.size=k/\i.bytes=bytes/\i.zero=some zv)(hzs:zv.cells.size=k)(hsz:0<k)
  (a0:Option Addr) (n:Nat) (xs:List Value) (hxl:xs.length=n*k) (hxs:∀j u,xs[j]? = some u->∃a,a0=some a/\w.cell? (a.add j)=some u)
  (ad:Addr) (m c:Nat) (news:List Value) (hl:news.length=m*k) (hnews:∀j u,news[j]? = some u->w.cell? (ad.add j)=some u) (hm:0<m) (hn0:a0=none->n=0)
  (h63:n+m<=maxLen) (hbytes:(n+m)*bytes<=140737488355328):
  ∃v' w',(Builtin.append_ #[t,t] ty #[.slice a0 n n,.slice (some ad) m c]).run P w=.ok v' w'/\OwnR w' e k v' (n+m) (xs++news)/\w.grownBy w' none/\∀g,blkOf v'=some g->w.heap.size<=g:=by
 obtain⟨i,hi,hsize,hby,hz⟩:=hi0;subst hsize;subst hby;have hsmall:n+m<=9223372036854775807:=by simp only[maxLen] at h63; omega
 have hlen:(xs++news).length=(n+m)*i.size:=by rw[ze,hxl,hl,z61]
 have hge:=z93 w (n+m) n e;have hcm:grownCap w (n+m) n e<=maxLen:=zz2 w (n+m) n e h63;have fin:OwnR (w.drew.alloc (.cells (xs.toArray++news.toArray++Builtin.zeroCells zv.cells (grownCap w (n+m) n e-(n+m))) e)) e i.size (.slice (some ⟨w.heap.size,0,none⟩) (n+m) (grownCap w (n+m) n e)) (n+m) (xs++news):=by
  refine .of ⟨hlen,.inr ⟨w.heap.size,_,_,rfl,zN _,zm2 w.drew _,hge,hcm,?_,?_⟩⟩
  ·simp only[z62,zA1,zP2,hzs,hxl,hl,<-z61];congr 1;omega
  ·simp only[zJ2,zw];rw[<-zw,<-hlen];exact zb2
 have hgr:w.grownBy (w.drew.alloc (.cells (xs.toArray++news.toArray++Builtin.zeroCells zv.cells (grownCap w (n+m) n e-(n+m))) e)) none:=⟨rfl,rfl,rfl,by simp,fun k hk _=>zJ1 w.drew _ k hk⟩
 have hbk:∀g,blkOf (.slice (some ⟨w.heap.size,0,none⟩) (n+m) (grownCap w (n+m) n e))=some g->w.heap.size<=g:=by
  intro g hg;rw[qmS hg]; exact zP _
 cases a0 with
 | none=>
  have hn:=hn0 rfl;subst hn;have hx:xs=[]:=zk1 (by simpa using hxl)
  subst hx;have hr:=run_append_nil (P:=P) w t ty e i zv ht hi hz ad m c news hl hnews (by omega) (by omega) (by have hb:=hbytes; simp only[z11] at hb; omega)
  simp only[z11,zF,Array.empty_append] at fin hgr hbk ⊢;exact⟨_,_,hr,fin,hgr,hbk⟩
 | some a=>
  have hr:=run_append_grow (P:=P) w t ty e i zv ht hi hz a n n xs hxl (fun j u h=>by obtain⟨a',e1,e2⟩:=hxs j u h; cases e1; exact e2) ad m c news hl hnews (by omega) (by omega) (zQ2 (by omega) hbytes)
  exact⟨_,_,hr,fin,hgr,hbk⟩
end
structure MR where
 g:Bool
 rd:List Key
 wr:List Wr
section
variable {P:Program} {w0:World} {M:Mod} {N:Nat} {F0:Nat->Prop} {ops:Array Oper} {st:St} {Γ:List TI} {rty:TypeId}
variable {F:Nat->Prop} {U:Env} {a:Act} {w:World}
theorem Rel'.newA{w':World}{b d:Nat}{u:Value}{A:Ob}(h:Rel' P w0 M N F U st a w)(hb:st.d b=false)(hd:d<N)(hf:Fr w (fun _=>False) w')(hob:ObOk F w' A u)
  (hblk:∀g,blkOf u=some g->w.heap.size<=g):Rel' P w0 M N F (U.set b u) (st.app [.d b,.a b (some A),.r d (.own b)]) (a.put (some d) u) w':=by
 obtain⟨hv,_,hnp⟩:=h.mem.absent hb;have h1:=(h.grow0 hf).name (b:=b) (u:=u) hb hob.one;have hset:(U.set b u) b=some u:=by unfold Env.set; rw[if_pos rfl]
 have h2:=h1.addA (A:=A) hset hv hob (fun g hg=>⟨fun b' v hne hp hv' hbk=>by
   have hv2:U b'=some v:=by unfold Env.set at hv'; rwa[if_neg hne] at hv'
   have:=h.mem.lt (b:=b') hp hv2 hbk;have:=hblk g hg; omega,fun hF=>by have:=h.mem.fb g hF; have:=hblk g hg; omega,.inr (zA h.fr.size (hblk g hg))⟩)
 exact h2.setR hd (.own hset)
theorem Rel'.replA{w':World}{b0 b d:Nat}{u v0:Value}{A A0:Ob}(h:Rel' P w0 M N F U st a w)(hb:st.d b=false)(hd:d<N)(hA0:st.a b0=some A0)(hρ0:U b0=some v0)
  (hf:Fr w (fun g=>blkOf v0=some g) w') (hob:ObOk F w' A u) (hblk:blkOf u=blkOf v0\/∀g,blkOf u=some g->w.heap.size<=g):
  Rel' P w0 M N F (U.set b u) (st.app [.a b0 none,.d b,.a b (some A),.r d (.own b)]) (a.put (some d) u) w':=by
 have hne0:b0≠b:=fun e=>by subst e; rw[h.mem.dom b0 hb] at hρ0; cases hρ0
 have hp0:st.present b0:=.inr (by rw[hA0]; simp)
 have hd0:=h.dropA b0;have hv0:st.v b0=none:=by
  cases hx:st.v b0 with
  | none=>rfl
  | some x=>
   exfalso;obtain⟨g,arr,h1,h1b,_⟩:=h.mem.var b0 x.1 x.2 hx;obtain⟨u',h2,h3⟩:=h.mem.arr b0 A0 hA0;rw[h1] at h2; cases h2
   exact h3.novar rfl h1b
 have hpr:∀b',(st.put (.a b0 none)).present b'->b'≠b0/\st.present b':=by
  intro b' hp;by_cases e:b'=b0
  ·subst e;exfalso;rcases hp with hp | hp
   ·exact hp hv0
   ·refine hp ?_
    show(bif Nat.beq b' b' then none else st.a b')=none;simp
  ·refine⟨e,?_⟩
   rcases hp with hp | hp
   ·exact .inl hp
   ·refine .inr ?_
    have hp':(bif Nat.beq b' b0 then none else st.a b')≠none:=hp;rw[bq e] at hp'; exact hp'
 have hdis:∀b' v g,(st.put (.a b0 none)).present b'->U b'=some v->blkOf v=some g->¬blkOf v0=some g:=by
  intro b' v g hp hv hg hg0;obtain⟨hne,hp'⟩:=hpr b' hp;exact hne (h.mem.sep b' b0 v v0 g hp' hp0 hv hρ0 hg hg0)
 have hnF:∀g,F g->¬blkOf v0=some g:=fun g hF hg=>h.mem.own b0 v0 g hp0 hρ0 hg hF
 have hlo0:∀g,blkOf v0=some g->M.blk g\/w0.heap.size<=g:=fun g hg=>h.lo b0 v0 g hp0 hρ0 hg
 have h1:=(hd0.move (F':=F) hf hdis hnF (fun _ h=>h) (fun _ h=>.inl h) (fun g hg=>zw1 (h.mem.fb g hg) hf.size) (fun g hg hlt=>(hlo0 g hg).resolve_right (by omega))).name (b:=b) (u:=u) hb hob.one
 have hset:(U.set b u) b=some u:=by unfold Env.set; rw[if_pos rfl]
 obtain⟨hv,_,_⟩:=h.mem.absent hb;have h2:=h1.addA (A:=A) hset hv hob (fun g hg=>by
  rcases hblk with e | e
  ·rw[e] at hg;exact⟨fun b' v hne hp hv' hbk=>by
    have hv2:U b'=some v:=by unfold Env.set at hv'; rwa[if_neg hne] at hv'
    exact hdis b' v g hp hv2 hbk hg,fun hF=>hnF g hF hg,hlo0 g hg⟩
  ·have hge:=e g hg;exact⟨fun b' v hne hp hv' hbk=>by
    have hv2:U b'=some v:=by unfold Env.set at hv'; rwa[if_neg hne] at hv'
    have:=h.mem.lt (b:=b') (hpr b' hp).2 hv2 hbk;omega,fun hF=>by have:=h.mem.fb g hF; omega,.inr (zA h.fr.size hge)⟩)
 exact h2.setR hd (.own hset)
def MOk(P:Program)(w0:World)(M:Mod)(N:Nat)(F0:Nat->Prop)(ops:Array Oper)(st0:St)(dst:Option Nat)(op:Op)(rty:TypeId)(r:MR):Prop:=
 ∀pos af,RT P w0 M N F0 ops ⟨dst,op,rty,pos,af,none⟩ st0 r.rd r.wr
/-! ### New variables -/
def qxO(b d:Nat)(t:TypeId)(cs:List SV):List Wr:=(.d b::.v b (some (t,cs.length))::qcU b 0 cs)++[.r d (.ptr b 0)]
def evBox(st:St)(N d:Nat)(t:TypeId)(x:Operand):Option MR:=
 match(st.ev x).cells with
 | some cs=>bif Nat.blt d N&&!st.d (fresh st d 8 0) then some ⟨true,qaa x++[.d (fresh st d 8 0)],qxO (fresh st d 8 0) d t cs⟩ else none
 | none=>none
theorem qCe{d:Nat}{t:TypeId}{x:Operand}{r:MR}(h:evBox st N d t x=some r):MOk P w0 M N F0 ops st (some d) (.box t x) rty r:=by
 unfold evBox at h;split at h
 ·rename_i cs hc;cases hb:(Nat.blt d N&&!st.d (fresh st d 8 0)) with
  | false=>rw[hb] at h; cases h
  | true=>
   rw[hb] at h; cases h
   rw[z8,zS,zt] at hb;intro pos af;refine RT.stepW rfl fun st' hag F U a w hr=>?_
   have hd':st'.d (fresh st d 8 0)=false:=by rw[<-hb.2]; exact(hag (.d _) (by simp)).symm
   have hxd:=hr.evx hag (fun _ h=>mem_l h) (x:=x)
   obtain⟨c1,c2⟩:=qrD hr.mem.one hc hxd;have hn:=hr.newVar (b:=fresh st d 8 0) (d:=d) (ty:=t) (cs:=cs) (arr:=(a.eval x).cells) hd' hb.1 c1 c2;refine⟨_,_,F,_,.inl ?_,hn,fun _ h=>h,fun _ h=>.inl h⟩
   simp only[execOp,Instr.box,newVar,newRow,zl,zn,zh,run_newObj];rfl
 ·cases h
def qwO(Γ:List TI)(st:St)(N d:Nat)(t:TypeId):Option MR:=
 match look Γ t with
 | some i=>bif Nat.blt d N&&!st.d (fresh st d 8 0)&&i.zero.cells.toList.all (·.oneCell') then some ⟨true,[.d (fresh st d 8 0)],qxO (fresh st d 8 0) d t (zeroC i.zero)⟩ else none
 | none=>none
theorem qyY(hΓ:Tys P Γ){d:Nat}{t:TypeId}{r:MR}(h:qwO Γ st N d t=some r):MOk P w0 M N F0 ops st (some d) (.alloc t) rty r:=by
 unfold qwO at h;split at h
 ·rename_i i hl;obtain⟨hi,rfl⟩:=qao hΓ hl;cases hb:(Nat.blt d N&&!st.d (fresh st d 8 0)&&i.zero.cells.toList.all (·.oneCell')) with
  | false=>rw[hb] at h; cases h
  | true=>
   rw[hb] at h; cases h
   rw[z8,z8,zS,zt] at hb;intro pos af;refine RT.stepW rfl fun st' hag F U a w hr=>?_
   have hd':st'.d (fresh st d 8 0)=false:=by rw[<-hb.1.2]; exact(hag (.d _) (by simp)).symm
   obtain⟨c1,c2⟩:=qoS (P:=P) (F:=F) (w:=w) (U:=U) hb.2;have hn:=hr.newVar (b:=fresh st d 8 0) (d:=d) (ty:=i.t) (cs:=zeroC i.zero) (arr:=i.zero.cells) hd' hb.1.1 c1 c2;refine⟨_,_,F,_,.inl ?_,hn,fun _ h=>h,fun _ h=>.inl h⟩
   simp only[execOp,Instr.alloc,run_zeroValue' hi,newVar,newRow,zl,zn,zh,run_newObj];rfl
 ·cases h
/-! ### Stores -/
theorem qen(l:List Value)(o:Nat)(xs:List Value)(h:o+xs.length<=l.length)(j:Nat):
  (l.take o++xs++l.drop (o+xs.length))[j]? = if j<o then l[j]? else if j<o+xs.length then xs[j-o]? else l[j]?:=by
 rw[zw,List.getElem?_append,List.getElem?_append,zm,ze1 (by omega)]
 split
 ·rw[zr,if_pos (by assumption)]
 ·split
  ·rw[if_pos (by omega)]
  ·rw[if_neg (by omega),zE]; congr 1; omega
theorem Rel'.storeCells(h:Rel' P w0 M N F U st a w){b o k g:Nat}{tyb:TypeId}{cs:List SV}{xs:List Value}(hv:st.v b=some (tyb,k))(hρ:U b=some (.pointer (some ⟨g,0,none⟩)))
  (hl:cs.length=xs.length) (hk:o+cs.length<=k) (hd:∀(j:Nat) (s:SV) (x:Value),cs[j]? = some s->xs[j]? = some x->Den P F w U s x/\x.oneCell'=true):
  ∃w',(Go.storeCells ⟨g,o,none⟩ xs).run P w=.ok () w'/\Rel' P w0 M N F U (st.app (qcU b o cs)) a w':=by
 obtain⟨g',arr,a1,a2,a3,a4⟩:=h.mem.var b tyb k hv;rw[hρ] at a1; injection a1 with a1; injection a1 with a1; injection a1 with a1; cases a1
 have hfit:o+0+xs.length<=arr.size:=by omega
 have h1:∀v∈xs,v.oneCell'=true:=by
  intro v hv';obtain⟨j,hj⟩:=zq1 hv';have hjl:j<cs.length:=by rw[hl]; exact(zp.1 hj).1
  exact(hd j _ v (zj hjl) hj).2
 have hst:=z83 P g o tyb xs 0 arr w a2 hfit h1;simp only[zC1] at hst hfit;refine⟨_,hst,?_⟩
 obtain⟨e1,e2,e3,e4,e5,e6,e7⟩:=qjV b cs o st;refine h.setVar hv hρ ?_ e1 e2 e3 e4 e5 ?_
 ·simp only[zA1,ze,zm,zR,zn1]; omega
 ·intro j x hx;have hx':(arr.toList.take o++xs++arr.toList.drop (o+xs.length))[j]? = some x:=by simpa using hx
  rw[qen _ _ _ (by simpa using hfit)] at hx'
  by_cases c1:j<o
  ·rw[if_pos c1] at hx';rw[e6 j (.inl c1)];exact a4 j x (by simpa using hx')
  ·rw[if_neg c1] at hx';by_cases c2:j<o+xs.length
   ·rw[if_pos c2] at hx';have hs:cs[j-o]? = some (cs[j-o]'(by omega)):=zj (by omega)
    have h7:=e7 (j-o) _ hs;rw[show o+(j-o)=j by omega] at h7
    rw[h7];exact hd (j-o) _ x hs hx'
   ·rw[if_neg c2] at hx';rw[e6 j (.inr (by omega))]
    exact a4 j x (by simpa using hx')
theorem run_storeVar'{i:TI}(hi:i.ok P){ad:Addr}{v:Value}(hv:v.cells.size=i.size):(storeVar i.t ad v).run P w=(Go.storeCells ad v.cells.toList).run P w:=by
 simp[storeVar,run_sizeOf' hi,hv]
theorem qrN{T:Ty}{x:T.den}{cs:List Value}(h:RdC F w T x cs):(mkV T cs).cells=cs.toArray:=by
 unfold mkV;cases ha:T.agg with
 | true=>rfl
 | false=>
  have hs:T.size=1:=by cases T <;> first | rfl | cases ha
  have hl:=h.size;rw[hs] at hl;obtain⟨c,rfl⟩:=zB1.1 hl;exact qrC (h.one c (by simp))
theorem Rel'.newOne{b d:Nat}{ty:TypeId}{T:Ty}{X:T.den}{arr:Array Value}(h:Rel' P w0 M N F U st a w)(hb:st.d b=false)(hd:d<N)(hX:RdC F w T X arr.toList):
  Rel' P w0 M N F (U.set b (.slice (some ⟨w.heap.size,0,none⟩) 1 1)) (st.app [.d b,.a b (some (.arr ty T [X])),.r d (.ael b T.size 0 0)]) (a.put (some d) (.pointer (some ⟨w.heap.size,0,none⟩))) (w.alloc (.cells arr ty)):=by
 obtain⟨hv,_,hnp⟩:=h.mem.absent hb;have hf:Fr w (fun _=>False) (w.alloc (.cells arr ty)):=qd9 w _
 have hX':RdC F (w.alloc (.cells arr ty)) T X arr.toList:=hX.mono (fun _ h=>h) (fun g hg=>hf.blk g (h.mem.fb g hg) id)
 have hsz:arr.size=T.size:=by have:=hX.size; simpa using this
 have hob:ObOk F (w.alloc (.cells arr ty)) (.arr ty T [X]) (.slice (some ⟨w.heap.size,0,none⟩) 1 1):=by
  refine⟨arr.toList,⟨by simpa using hsz,.inr ⟨w.heap.size,0,arr,rfl,zm2 w _,zP _,by unfold maxLen; omega,by simpa using hsz,by rw[zB (by simp[hsz])]⟩⟩,fun i x hx=>?_⟩
  cases i with
  | zero=>
   simp only[zl2,zt1] at hx;subst hx;rw[zx2,z92,zB (by simp[hsz])]; exact hX'
  | succ i=>simp at hx
 have h1:=(h.grow0 hf).name (b:=b) (u:=.slice (some ⟨w.heap.size,0,none⟩) 1 1) hb hob.one;have hset:(U.set b (.slice (some ⟨w.heap.size,0,none⟩) 1 1)) b=some (.slice (some ⟨w.heap.size,0,none⟩) 1 1):=by unfold Env.set; rw[if_pos rfl]
 have h2:=h1.addA (A:=.arr ty T [X]) hset hv hob (fun g hg=>by
  injection hg with hg
  have hg:w.heap.size=g:=hg;subst hg;exact⟨fun b' v hne hp hv' hbk=>by
   have hv2:U b'=some v:=by unfold Env.set at hv'; rwa[if_neg hne] at hv'
   have:=h.mem.lt (b:=b') hp hv2 hbk;omega,fun hF=>by have:=h.mem.fb _ hF; omega,.inr h.fr.size⟩)
 have h3:=h2.setR (d:=d) (s:=.ael b T.size 0 0) (u:=.pointer (some ⟨w.heap.size,0,none⟩)) hd (by
  have:=Den.ael (P:=P) (F:=F) (w:=w.alloc (.cells arr ty)) (k:=T.size) (i:=0) (o:=0) hset (by omega)
  simpa using this)
 exact h3
def qCf(b d:Nat)(t:TypeId)(T:Ty)(X:T.den):List Wr:=[.d b,.a b (some (.arr t T [X])),.r d (.ael b T.size 0 0)]
def qz4(Γ:List TI)(st:St)(N d:Nat)(t:TypeId)(x:Operand):Option MR:=match d with
 | 0=>none
 | _+1=>none
theorem qz5(hΓ:Tys P Γ){d:Nat}{t:TypeId}{x:Operand}{r:MR}(h:qz4 Γ st N d t x=some r):MOk P w0 M N F0 ops st (some d) (.box t x) rty r:=by
 unfold qz4 at h;split at h <;> cases h
def qt5(Γ:List TI)(st:St)(N d:Nat)(t:TypeId):Option MR:=
 match look Γ t with
 | some i=>bif Nat.blt d N&&!st.d (fresh st d 8 0)&&i.zero.cells.toList.all (·.oneCell') then match asm i.T (zeroC i.zero) with
   | some (X,[])=>some ⟨true,[.d (fresh st d 8 0)],qCf (fresh st d 8 0) d t i.T X⟩
   | _=>none
  else none
 | none=>none
theorem qwP(hΓ:Tys P Γ){d:Nat}{t:TypeId}{r:MR}(h:qt5 Γ st N d t=some r):MOk P w0 M N F0 ops st (some d) (.alloc t) rty r:=by
 unfold qt5 at h;split at h
 ·rename_i i hl;obtain⟨hi,rfl⟩:=qao hΓ hl;cases hb:(Nat.blt d N&&!st.d (fresh st d 8 0)&&i.zero.cells.toList.all (·.oneCell')) with
  | false=>rw[hb] at h; cases h
  | true=>
   rw[hb] at h; simp only[zb] at h;split at h
   ·rename_i X hX;cases h
    rw[z8,z8,zS,zt] at hb;intro pos af;refine RT.stepW rfl fun st' hag F U a w hr=>?_
    have hd':st'.d (fresh st d 8 0)=false:=by rw[<-hb.1.2]; exact(hag (.d _) (by simp)).symm
    obtain⟨c1,c2⟩:=qoS (P:=P) (F:=F) (w:=w) (U:=U) hb.2;obtain⟨z1,z2,z3⟩:=qom (P:=P) (F:=F) (w:=w) (U:=U) (vs:=i.zero.cells.toList) hX (by simp[zeroC]) (fun q s u hs hu=>(c2 q s u hs (by simpa using hu)).1)
    have hlen:i.zero.cells.toList.length<=i.T.size:=by
     have:=congrArg List.length z1;simp[zeroC] at this;exact Nat.le_of_sub_eq_zero (by simpa using this.symm)
    rw[zB hlen] at z2;have hn:=hr.newOne (b:=fresh st d 8 0) (d:=d) (ty:=i.t) (arr:=i.zero.cells) hd' hb.1.1 (X:=X) z2;refine⟨_,_,F,_,.inl ?_,hn,fun _ h=>h,fun _ h=>.inl h⟩
    simp only[execOp,Instr.alloc,run_zeroValue' hi,newVar,newRow,zl,zn,zh,run_newObj];rfl
   ·cases h
 ·cases h
theorem Rel'.storeElC{i o b g n cap:Nat}{tya:TypeId}{e:Ty}{l:List e.den}{z:e.den}{ds:List Value}(h:Rel' P w0 M N F U st a w)(hA:st.a b=some (.arr tya e l))
  (hρ:U b=some (.slice (some ⟨g,0,none⟩) n cap)) (hi:i<n) (hup:∀es,RdC F w e (l.getD i e.dflt) es->RdC F w e z (es.take o++ds++es.drop (o+ds.length))/\o+ds.length<=es.length) (hone:∀v∈ds,v.oneCell'=true):
  ∃w',(Go.storeCells ⟨g,i*e.size+o,none⟩ ds).run P w=.ok () w'/\Rel' P w0 M N F U (st.put (.a b (some (.arr tya e (l.set i z))))) a w':=by
 obtain⟨u,h1,xs,⟨h2,h3⟩,h4⟩:=h.mem.arr b _ hA;rw[hρ] at h1; cases h1
 have hp0:st.present b:=.inr (by rw[hA]; simp)
 rcases h3 with⟨_,h3,_⟩ | ⟨g',cap',cur,h3,h6,h7,h8,h9,h10⟩
 ·injection h3 with _ h3 _; omega
 ·injection h3 with e1 e2 e3
  injection e1 with e1; injection e1 with e1; subst e1 e2
  rw[<-e3] at h7 h8 h9;have hbk:blkOf (.slice (some ⟨g,0,none⟩) l.length cap)=some g:=by rw[e3]; rfl
  have hx:l[i]? = some (l.getD i e.dflt):=qtZ hi;have hes:=h4 i _ hx;obtain⟨u1,u2⟩:=hup _ hes;have hlen:=hes.size;have hrow:i*e.size+e.size<=l.length*e.size:=by
   have:=zD e.size (show i+1<=l.length from hi)
   rwa[z61,zH1] at this
  have hcap:l.length*e.size<=cap*e.size:=zD _ h7;have hfit:i*e.size+o+0+ds.length<=cur.size:=by omega
  have hst:=z83 P g (i*e.size+o) tya ds 0 cur w h6 hfit (fun v hv=>hone v hv)
  simp only[zC1] at hst;refine⟨_,hst,?_⟩
  generalize hw':w.setRow g _=w';have hfr:Fr w (fun g'=>blkOf (.slice (some ⟨g,0,none⟩) l.length cap)=some g') w':=by
   subst hw';exact⟨rfl,rfl,rfl,by simp,fun g' _ hne=>zy2 w g g' _ (fun e=>hne (by subst e; exact hbk))⟩
  have hheap:w'.heap[g]? = some (.cells ((cur.toList.take (i*e.size+o)++ds++cur.toList.drop (i*e.size+o+ds.length)).toArray) tya (0,0)):=by
   subst hw'; exact zs2 w g cur _ tya (0,0) h6
  have hdrop:=h.dropA b;have hv0:st.v b=none:=by
   cases hxv:st.v b with
   | none=>rfl
   | some x=>obtain⟨g2,arr,q1,_⟩:=h.mem.var b x.1 x.2 hxv; rw[hρ] at q1; cases q1
  have hpr:∀b',(st.put (.a b none)).present b'->b'≠b/\st.present b':=by
   intro b' hp;by_cases e:b'=b
   ·subst e;exfalso;rcases hp with hp | hp
    ·exact hp hv0
    ·refine hp ?_
     show(bif Nat.beq b' b' then none else st.a b')=none;simp
   ·refine⟨e,?_⟩
    rcases hp with hp | hp
    ·exact .inl hp
    ·refine .inr ?_
     have hp':(bif Nat.beq b' b then none else st.a b')≠none:=hp;rw[bq e] at hp'; exact hp'
  have hdis:∀b' v g',(st.put (.a b none)).present b'->U b'=some v->blkOf v=some g'->¬blkOf (.slice (some ⟨g,0,none⟩) l.length cap)=some g':=by
   intro b' v g' hp hv hg hg0;obtain⟨hne,hp'⟩:=hpr b' hp;exact hne (h.mem.sep b' b v _ g' hp' hp0 hv hρ hg hg0)
  have hnF:∀g',F g'->¬blkOf (.slice (some ⟨g,0,none⟩) l.length cap)=some g':=fun g' hF hg=>h.mem.own b _ g' hp0 hρ hg hF
  have hlo0:∀g',blkOf (.slice (some ⟨g,0,none⟩) l.length cap)=some g'->M.blk g'\/w0.heap.size<=g':=fun g' hg=>h.lo b _ g' hp0 hρ hg
  have h1:=hdrop.move (F':=F) hfr hdis hnF (fun _ h=>h) (fun _ h=>.inl h) (fun g hg=>zw1 (h.mem.fb g hg) hfr.size) (fun g hg hlt=>(hlo0 g hg).resolve_right (by omega))
  have hc:∀g,F g->w'.heap[g]? = w.heap[g]?:=fun g hF=>hfr.blk _ (h.mem.fb _ hF) (hnF _ hF)
  have hcurlen:cur.toList.length=cap*e.size:=by rw[zn1]; exact h9
  -- the new cells
  have hxs:xs=cur.toList.take (l.length*e.size):=h10.symm
  let cur':=cur.toList.take (i*e.size+o)++ds++cur.toList.drop (i*e.size+o+ds.length)
  have hcl:cur'.length=cap*e.size:=by
   simp only[cur',ze,zm,zR]; omega
  have hob:ObOk F w' (.arr tya e (l.set i z)) (.slice (some ⟨g,0,none⟩) l.length cap):=by
   refine⟨cur'.take (l.length*e.size),⟨by simp only[zm,zs1]; omega,.inr ⟨g,cap',cur'.toArray,by simp[e3],hheap,by rw[<-e3]; simpa using h7,by rw[<-e3]; exact h8,by rw[<-e3]; simpa using hcl,by simp⟩⟩,fun j x hj=>?_⟩
   have hjl:j<l.length:=by have:=(zp.1 hj).1; simpa using this
   have hrowj:j*e.size+e.size<=l.length*e.size:=by
    have:=zD e.size (show j+1<=l.length from hjl)
    rwa[z61,zH1] at this
   have hget:∀q,q<l.length*e.size->cur'[q]? = if q<i*e.size+o then xs[q]? else if q<i*e.size+o+ds.length then ds[q-(i*e.size+o)]? else xs[q]?:=by
    intro q hq;have hxq:xs[q]? = cur.toList[q]?:=by rw[hxs,zr,if_pos hq]
    rw[hxq];exact qen cur.toList (i*e.size+o) ds (by rw[hcurlen]; omega) q
   have hslice:∀q,q<e.size->((cur'.take (l.length*e.size)).drop (j*e.size))[q]? = cur'[j*e.size+q]?:=by
    intro q hq;rw[zE,zr,if_pos (by omega)]
   by_cases hji:j=i
   ·subst hji;rw[zu2 hjl] at hj;cases hj
    refine(u1.mono (fun _ h=>h) hc:RdC F w' e z _) |> fun hh=>?_
    have he:((cur'.take (l.length*e.size)).drop (j*e.size)).take e.size=((xs.drop (j*e.size)).take e.size).take o++ds++((xs.drop (j*e.size)).take e.size).drop (o+ds.length):=by
     apply zR1;intro q;by_cases hq:q<e.size
     ·rw[zr,if_pos hq,hslice q hq,hget _ (by omega)]
      rw[qen _ _ _ u2 q];have hxq:((xs.drop (j*e.size)).take e.size)[q]? = xs[j*e.size+q]?:=by rw[zr,if_pos hq,zE]
      rw[hxq];by_cases q1:q<o
      ·rw[if_pos q1,if_pos (by omega)]
      ·rw[if_neg q1,if_neg (by omega)]
       by_cases q2:q<o+ds.length
       ·rw[if_pos q2,if_pos (by omega)]; congr 1; omega
       ·rw[if_neg q2,if_neg (by omega)]
     ·rw[zr,if_neg hq,zy1];have:=u1.size;rw[this]; omega
    rw[he]; exact hh
   ·rw[zE2 (Ne.symm hji)] at hj;have hold:=(h4 j x hj).mono (fun _ h=>h) hc
    have hdisj:j*e.size+e.size<=i*e.size\/i*e.size+e.size<=j*e.size:=by
     rcases Nat.lt_or_gt_of_ne hji with hlt | hgt
     ·left;have:=zD e.size (show j+1<=i from hlt)
      rwa[z61,zH1] at this
     ·right;have:=zD e.size (show i+1<=j from hgt)
      rwa[z61,zH1] at this
    have he:((cur'.take (l.length*e.size)).drop (j*e.size)).take e.size=(xs.drop (j*e.size)).take e.size:=by
     apply zR1;intro q;by_cases hq:q<e.size
     ·rw[zr,if_pos hq,hslice q hq,hget _ (by omega),zr,if_pos hq,zE]
      rcases hdisj with hd | hd
      ·rw[if_pos (by omega)]
      ·rw[if_neg (by omega),if_neg (by omega)]
     ·rw[zr,if_neg hq,zr,if_neg hq]
    rw[he]; exact hold
  have h2:=h1.addA (b:=b) (A:=.arr tya e (l.set i z)) hρ hv0 hob (fun g' hg=>⟨fun b' v hne hp hv' hbk=>hdis b' v g' hp hv' hbk hg,fun hF=>hnF g' hF hg,hlo0 g' hg⟩)
  have heq:(st.put (.a b none)).put (.a b (some (.arr tya e (l.set i z))))=st.put (.a b (some (.arr tya e (l.set i z)))):=by
   refine St.ext' fun κ hg=>?_
   cases κ <;> first | (cases hg; done) | simp only[agree,St.put]
   rename_i b';cases hbb:Nat.beq b' b <;> simp
  rw[heq] at h2;exact h2
theorem Rel'.storeEl{i o b g n cap:Nat}{tya:TypeId}{e:Ty}{l:List e.den}{z:e.den}{ds:List Value}{T':Ty}{y:T'.den}(h:Rel' P w0 M N F U st a w)(hA:st.a b=some (.arr tya e l))
  (hρ:U b=some (.slice (some ⟨g,0,none⟩) n cap)) (hi:i<n) (hu:upd e (l.getD i e.dflt) o T' y=some z) (hy:RdC F w T' y ds):
  ∃w',(Go.storeCells ⟨g,i*e.size+o,none⟩ ds).run P w=.ok () w'/\Rel' P w0 M N F U (st.put (.a b (some (.arr tya e (l.set i z))))) a w':=
 h.storeElC hA hρ hi (fun es hes=>qrM hu hes hy) (fun v hv=>hy.one v hv)
theorem qEi{e:Ty}{x z:e.den}{o n m:Nat}{T:Ty}{L:List T.den}{d:T.den}(hs:T.size=1)(hL:sub e x o (.arr n T)=some L)(hz:upd e x o (.arr n T) (List.set (α:=T.den) L m d)=some z)(hm:m<n){es ds:List Value}(hx:RdC F w e x es)(hd:RdC F w T d ds):
  RdC F w e z (es.take (o+m)++ds++es.drop (o+m+ds.length))/\o+m+ds.length<=es.length:=by
 obtain⟨a1,a2⟩:=qlK hL hx;obtain⟨_,g2⟩:=RdAr.get (fun _ _ h=>RdC.size h) T.dflt a1 hm
 have h3:=g2 hd;have hds:=hd.size;have hsz:(Ty.arr n T).size=n:=by show n*T.size=n; rw[hs,zt2]
 rw[hs,zt2,hsz] at h3;rw[hsz] at a2;obtain⟨u1,u2⟩:=qrM hz hx (h3:RdC F w (.arr n T) _ _);rw[hs] at hds;have hlen:(((es.drop o).take n).take m++ds++((es.drop o).take n).drop (m+1)).length=n:=by simp; omega
 rw[hlen] at u1;refine⟨?_,by omega⟩
 have e1:es.take o++(((es.drop o).take n).take m++ds++((es.drop o).take n).drop (m+1))++es.drop (o+n)=es.take (o+m)++ds++es.drop (o+m+ds.length):=by
  have t1:((es.drop o).take n).take m=(es.drop o).take m:=by rw[zO1,ze1 (by omega)]
  have t2:es.take (o+m)=es.take o++(es.drop o).take m:=by rw[zb3]
  have t3:((es.drop o).take n).drop (m+1)++es.drop (o+n)=es.drop (o+m+ds.length):=by
   rw[zY1,zI1,hds];have:es.drop (o+n)=(es.drop (o+(m+1))).drop (n-(m+1)):=by rw[zI1]; congr 1; omega
   rw[this,zS1]; congr 1
  rw[t1,t2,<-t3]; simp only[zw]
 rw[<-e1]; exact u1
def pelCs(T:Ty)(l:List T.den):Nat->Nat->List SV
 | _,0=>[]
 | j,n+1=>.v T (l.getD j T.dflt)::pelCs T l (j+1) n
theorem qvH{T:Ty}{l:List T.den}:∀ {n j:Nat},(pelCs T l j n).length=n
 | 0,_=>rfl
 | n+1,j=>by simp only[pelCs,zf]; rw[qvH]
theorem qvI{T:Ty}{l:List T.den}:∀ {n j q:Nat},q<n->(pelCs T l j n)[q]? = some (.v T (l.getD (j+q) T.dflt))
 | 0,_,_,h=>by omega
 | n+1,j,0,_=>rfl
 | n+1,j,q+1,h=>by
  have:=qvI (T:=T) (l:=l) (n:=n) (j:=j+1) (q:=q) (by omega)
  rw[show j+(q+1)=j+1+q by omega]
  exact this
theorem qtx{b:Nat}{T:Ty}(hg:T.agg=false){st st':St}:∀ {n o:Nat},(∀j,j<n->st.c b (o+j)=st'.c b (o+j))->pelL st b 1 1 T o n=pelL st' b 1 1 T o n
 | 0,_,_=>rfl
 | n+1,o,h=>by
  have h0:=h 0 (by omega)
  have h1:=qtx (b:=b) hg (st:=st) (st':=st') (n:=n) (o:=o+1) (fun j hj=>by rw[show o+1+j=o+(j+1) by omega]; exact h (j+1) (by omega))
  simp only[pelL,datAt,hg,zc];rw[h1,show st.c b o=st'.c b o from h0]
theorem Rel'.storePel(h:Rel' P w0 M N F U st a w){b o n k g ix:Nat}{tyb:TypeId}{T:Ty}{l:List T.den}{d:T.den}{c:Value}(hv:st.v b=some (tyb,k))
  (hρ:U b=some (.pointer (some ⟨g,0,none⟩))) (hi:ix<n) (hk:o+n<=k) (hg:T.agg=false) (hp:pelL st b 1 1 T o n=some l) (hy:RdC F w T d [c]):
  ∃w',(Go.storeCells ⟨g,o+ix*1,none⟩ [c]).run P w=.ok () w'/\Rel' P w0 M N F U (st.app (qcU b o (pelCs T (l.set ix d) 0 n))) a w':=by
 obtain⟨g',arr,a1,a2,a3,a4⟩:=h.mem.var b tyb k hv;rw[hρ] at a1; injection a1 with a1; injection a1 with a1; injection a1 with a1; cases a1
 obtain⟨p1,p2⟩:=qt0 hp;have h1:∀v∈[c],v.oneCell'=true:=fun v hv'=>hy.one v hv'
 have hst:=z83 P g (o+ix*1) tyb [c] 0 arr w a2 (by simp only[zf,zo]; omega) h1
 simp only[zC1] at hst;refine⟨_,hst,?_⟩
 obtain⟨e1,e2,e3,e4,e5,e6,e7⟩:=qjV b (pelCs T (l.set ix d) 0 n) o st;rw[qvH] at e6;refine h.setVar hv hρ ?_ e1 e2 e3 e4 e5 ?_
 ·simp only[zA1,ze,zm,zR,zn1,zf,zo]; omega
 ·intro j x hx;have hx':(arr.toList.take (o+ix*1)++[c]++arr.toList.drop (o+ix*1+[c].length))[j]? = some x:=by simpa using hx
  rw[qen _ _ _ (by simp only[zn1,zf,zo]; omega)] at hx'
  simp only[zf,zo,z11,zt2] at hx';by_cases c1:j<o\/o+n<=j
  ·rw[e6 j c1];have hx2:arr.toList[j]? = some x:=by
    rcases c1 with c1 | c1
    ·rw[if_pos (by omega)] at hx'; exact hx'
    ·rw[if_neg (by omega),if_neg (by omega)] at hx'; exact hx'
   exact a4 j x (by simpa using hx2)
  ·have h7:=e7 (j-o) _ (qvI (by omega))
   rw[show o+(j-o)=j by omega,z11] at h7
   rw[h7];by_cases c2:j=o+ix
   ·rw[if_neg (by omega),if_pos (by omega),show j-(o+ix)=0 by omega] at hx'
    injection hx' with hx'; subst hx'
    have hgd:(l.set ix d).getD (j-o) T.dflt=d:=by
     rw[zk,show j-o=ix by omega,zu2 (by omega)]; rfl
    rw[hgd];refine⟨.v ⟨[c],hy,?_⟩,hy.one c (by simp)⟩
    unfold mkV; rw[hg]; rfl
   ·have hx2:arr.toList[j]? = some x:=by
     by_cases c3:j<o+ix
     ·rw[if_pos c3] at hx'; exact hx'
     ·rw[if_neg c3,if_neg (by omega)] at hx'; exact hx'
    have hgd:(l.set ix d).getD (j-o) T.dflt=l.getD (j-o) T.dflt:=by
     rw[zk,zE2 (by omega),zk]
    rw[hgd];obtain⟨d1,d2⟩:=a4 j x (by simpa using hx2)
    have hd:=p2 (j-o) (by omega)
    unfold datAt at hd;rw[hg,show o+(j-o)*1=j by omega] at hd
    exact⟨.v (qda hd d1),d2⟩
def qwQ(Γ:List TI)(st:St)(t:TypeId)(x y:Operand):Option MR:=
 match look Γ t with
 | none=>none
 | some i=>match st.ev x with
  | .ptr b o=>match st.v b,(st.ev y).cells with
   | some (_,k),some cs=>bif Nat.beq cs.length i.size&&Nat.ble (o+cs.length) k then some ⟨true,qaa x++(qaa y++[.v b]),qcU b o cs⟩ else none
   | _,_=>none
  | .ael b k ix o=>match st.a b,(st.ev y).dat i.T with
   | some (.arr ty e l),some d=>bif Nat.beq k e.size&&Nat.beq i.size i.T.size then match upd e (l.getD ix e.dflt) o i.T d with
     | some z=>some ⟨true,qaa x++(qaa y++[.a b]),[.a b (some (.arr ty e (l.set ix z)))]⟩
     | none=>none
    else none
   | _,_=>none
  | .pel b n k ix o=>match st.v b,(st.ev y).dat i.T with
   | some (_,kv),some d=>bif Nat.beq k 1&&Nat.beq i.size 1&&Nat.beq i.T.size 1&&!i.T.agg&&Nat.ble (o+n) kv then match pelL st b 1 1 i.T o n with
     | some l=>some ⟨true,qaa x++(qaa y++(.v b::qh7 b o n)),qcU b o (pelCs i.T (l.set ix d) 0 n)⟩
     | none=>none
    else none
   | _,_=>none
  | .aix b k ix o n m=>match st.a b,(st.ev y).dat i.T with
   | some (.arr ty e l),some d=>bif Nat.beq k e.size&&Nat.beq i.size i.T.size&&Nat.beq i.size 1 then match sub e (l.getD ix e.dflt) o (.arr n i.T) with
     | some L=>match upd e (l.getD ix e.dflt) o (.arr n i.T) (List.set (α:=i.T.den) L m d) with
      | some z=>some ⟨true,qaa x++(qaa y++[.a b]),[.a b (some (.arr ty e (l.set ix z)))]⟩
      | none=>none
     | none=>none
    else none
   | _,_=>none
  | _=>none
theorem qyZ(hΓ:Tys P Γ){t:TypeId}{x y:Operand}{r:MR}(h:qwQ Γ st t x y=some r):MOk P w0 M N F0 ops st none (.store t x y) rty r:=by
 unfold qwQ at h;split at h
 ·cases h
 ·rename_i i hl;obtain⟨hi,rfl⟩:=qao hΓ hl;split at h
  ·rename_i b o hx;split at h
   ·rename_i tyb k cs hv hc;cases hb:(Nat.beq cs.length i.size&&Nat.ble (o+cs.length) k) with
    | false=>rw[hb] at h; cases h
    | true=>
     rw[hb] at h; cases h
     rw[z8] at hb;have h1:=zd hb.1;have h2:=zJ hb.2;intro pos af;refine RT.stepW rfl fun st' hag F U a w hr=>?_
     have hxd:=hr.evx hag (fun _ h=>mem_l h) (x:=x)
     have hyd:=hr.evx hag (fun _ h=>mem_r (mem_l h)) (x:=y)
     have hv':st'.v b=some (tyb,k):=by rw[<-hv]; exact(hag (.v b) (by simp)).symm
     obtain⟨c1,c2⟩:=qrD hr.mem.one hc hyd;rw[hx] at hxd;generalize he:a.eval x=u at hxd;cases hxd with
     | ptr hρ=>
      rename_i g;obtain⟨w',g1,g2⟩:=hr.storeCells (P:=P) (cs:=cs) (xs:=(a.eval y).cells.toList) hv' hρ (o:=o) (by simpa using c1) h2 (fun j s x hs hx=>c2 j s x hs (by simpa using hx))
      refine⟨undef,U,F,w',.inr ⟨?_,rfl⟩,g2,fun _ h=>h,fun _ h=>.inl h⟩
      have hrs:=run_storeVar' (w:=w) hi (ad:=⟨g,o,none⟩) (v:=a.eval y) (by rw[<-c1,h1])
      simp only[execOp,he,Instr.storeAt,Instr.sureAddr,zl,zn,zh,hrs,g1]
   ·cases h
  ·rename_i b k ix o hx;split at h
   ·rename_i tya e l d hA hd;cases hb:(Nat.beq k e.size&&Nat.beq i.size i.T.size) with
    | false=>rw[hb] at h; cases h
    | true=>
     rw[hb] at h; simp only[zb] at h;rw[z8] at hb;have h1:=zd hb.1;have h2:=zd hb.2;subst h1;split at h
     ·rename_i z hz;cases h
      intro pos af;refine RT.stepW rfl fun st' hag F U a w hr=>?_
      have hxd:=hr.evx hag (fun _ h=>mem_l h) (x:=x)
      have hyd:=qda hd (hr.evx hag (fun _ h=>mem_r (mem_l h)) (x:=y))
      have hA':st'.a b=some (.arr tya e l):=by rw[<-hA]; exact(hag (.a b) (by simp)).symm
      obtain⟨ds,hds,hyv⟩:=hyd;rw[hx] at hxd;generalize he:a.eval x=u at hxd;cases hxd with
      | ael hρ hin=>
       rename_i g n cap;obtain⟨w',g1,g2⟩:=hr.storeEl hA' hρ hin hz hds;refine⟨undef,U,F,w',.inr ⟨?_,rfl⟩,g2,fun _ h=>h,fun _ h=>.inl h⟩
       have hcv:=qrN hds;have hrs:=run_storeVar' (w:=w) hi (ad:=⟨g,ix*e.size+o,none⟩) (v:=a.eval y) (by rw[hyv,hcv,h2]; simpa using hds.size)
       rw[hyv,hcv] at hrs;simp only[execOp,he,hyv,Instr.storeAt,Instr.sureAddr,zl,zn,zh,hrs,g1]
     ·cases h
   ·cases h
  ·rename_i b n k ix o hx;split at h
   ·rename_i tyb kv d hv hd;cases hb:(Nat.beq k 1&&Nat.beq i.size 1&&Nat.beq i.T.size 1&&!i.T.agg&&Nat.ble (o+n) kv) with
    | false=>rw[hb] at h; cases h
    | true=>
     rw[hb] at h; simp only[zb] at h;rw[z8,z8,z8,z8,zt] at hb;have h1:=zd hb.1.1.1.1;have h2:=zd hb.1.1.1.2;have h3:=zd hb.1.1.2;have hg:=hb.1.2;have hle:=zJ hb.2;subst h1;split at h
     ·rename_i l hp;cases h
      intro pos af;refine RT.stepW rfl fun st' hag F U a w hr=>?_
      have hxd:=hr.evx hag (fun _ h=>mem_l h) (x:=x)
      have hyd:=qda hd (hr.evx hag (fun _ h=>mem_r (mem_l h)) (x:=y))
      have hv':st'.v b=some (tyb,kv):=by rw[<-hv]; exact(hag (.v b) (by simp)).symm
      have hp':pelL st' b 1 1 i.T o n=some l:=by
       rw[<-hp];exact(qtx hg fun j hj=>hag (.c b (o+j)) (mem_r (mem_r (zV _ (qhp hj))))).symm
      obtain⟨ds,hds,hyv⟩:=hyd;have hl:=hds.size;rw[h3] at hl;obtain⟨c,rfl⟩:=zB1.1 hl;rw[hx] at hxd;generalize he:a.eval x=u at hxd;cases hxd with
      | pel hρ hin=>
       rename_i g;obtain⟨w',g1,g2⟩:=hr.storePel (P:=P) hv' hρ hin hle hg hp' hds;refine⟨undef,U,F,w',.inr ⟨?_,rfl⟩,g2,fun _ h=>h,fun _ h=>.inl h⟩
       have hcv:=qrN hds;have hrs:=run_storeVar' (w:=w) hi (ad:=⟨g,o+ix*1,none⟩) (v:=a.eval y) (by rw[hyv,hcv,h2]; rfl)
       rw[hyv,hcv] at hrs;simp only[execOp,he,hyv,Instr.storeAt,Instr.sureAddr,zl,zn,zh,hrs,g1]
     ·cases h
   ·cases h
  ·rename_i b k ix o n m hx;split at h
   ·rename_i tya e l d hA hd;cases hb:(Nat.beq k e.size&&Nat.beq i.size i.T.size&&Nat.beq i.size 1) with
    | false=>rw[hb] at h; cases h
    | true=>
     rw[hb] at h; simp only[zb] at h;rw[z8,z8] at hb;have h1:=zd hb.1.1;have h2:=zd hb.1.2;have h3:=zd hb.2;subst h1;split at h
     ·rename_i L hL;split at h
      ·rename_i z hz;cases h
       intro pos af;refine RT.stepW rfl fun st' hag F U a w hr=>?_
       have hxd:=hr.evx hag (fun _ h=>mem_l h) (x:=x)
       have hyd:=qda hd (hr.evx hag (fun _ h=>mem_r (mem_l h)) (x:=y))
       have hA':st'.a b=some (.arr tya e l):=by rw[<-hA]; exact(hag (.a b) (by simp)).symm
       obtain⟨ds,hds,hyv⟩:=hyd;rw[hx] at hxd;generalize he:a.eval x=u at hxd;cases hxd with
       | aix hρ hin hm=>
        rename_i g cap n';obtain⟨w',g1,g2⟩:=hr.storeElC (z:=z) (o:=o+m) (ds:=ds) hA' hρ hin (fun es hes=>qEi (by rw[<-h2,h3]) hL hz hm hes hds) hds.one
        refine⟨undef,U,F,w',.inr ⟨?_,rfl⟩,g2,fun _ h=>h,fun _ h=>.inl h⟩
        have hcv:=qrN hds;have hrs:=run_storeVar' (w:=w) hi (ad:=⟨g,ix*e.size+(o+m),none⟩) (v:=a.eval y) (by rw[hyv,hcv,h2]; simpa using hds.size)
        rw[hyv,hcv] at hrs;simp only[execOp,he,hyv,Instr.storeAt,Instr.sureAddr,zl,zn,zh,hrs,g1]
      ·cases h
     ·cases h
   ·cases h
  ·cases h
end
def fits(n b:Nat):Bool:=Nat.ble (n*b) 140737488355328
def Ob.as(e:Ty):Ob->Option (List e.den)
 | .arr _ e' l=>if h:e'=e then some (h ▸ l) else none
 | _=>none
def Ob.ty:Ob->TypeId
 | .arr t _ _=>t
 | .map _ t _ _ _=>t
 | .iter _ _ _ _=>0
section
variable {P:Program} {w0:World} {M:Mod} {N:Nat} {F0:Nat->Prop} {ops:Array Oper} {st:St} {Γ:List TI} {rty:TypeId}
variable {F:Nat->Prop} {U:Env} {a:Act} {w:World}
theorem Ob.as_spec{A:Ob}{e:Ty}{l:List e.den}(h:A.as e=some l):A=.arr A.ty e l:=by
 cases A with
 | arr t e' l'=>
  simp only[Ob.as] at h;split at h
  ·rename_i he;subst he; cases h; rfl
  ·cases h
 | map=>cases h
 | iter=>cases h
/-! ### Slice literals -/
def zsv:Value->SV
 | .string s=>ofV (.string s)
 | _=>.any
theorem qEj{z x:Value}{q n:Nat}(h:((Array.range n).map (z.cells[· % z.cells.size]!))[q]? = some x):Den P F w U (zsv z) x:=by
 cases z with
 | string s=>
  rw[Array.getElem?_map] at h
  cases hq:(Array.range n)[q]? with
  | none=>rw[hq] at h; cases h
  | some k=>
   rw[hq,zf1] at h;injection h with h
   subst h;have hc:(Value.string s).cells=#[.string s]:=rfl;rw[hc];have hs:(#[(Value.string s)]:Array Value).size=1:=rfl;rw[hs,Nat.mod_one];exact .ofStr _
 | _=>exact .any _
def evBSl(Γ:List TI)(st:St)(t:TypeId)(len:Nat)(parts:List (Nat×Operand)):Option (TypeId×(T:Ty)×List T.den):=
 match look Γ t with
 | some i=>match i.desc with
  | .slice e=>match look Γ e with
   | some j=>bif Nat.beq j.size j.T.size&&Nat.blt 0 j.size&&Nat.ble (len*j.size) 16777216&&j.zero.cells.toList.all (·.oneCell')&&Nat.beq j.zero.cells.size j.size then
     match fillS (fun i=>some (i*j.size,j.size)) (List.replicate (len*j.size) (zsv j.zero)) (parts.map fun p=>(p.1,st.ev p.2)) with
     | some cs=>match asmN j.T len cs with
      | some l=>some (e,⟨j.T,l⟩)
      | none=>none
     | none=>none
    else none
   | none=>none
  | _=>none
 | none=>none
def qt6(Γ:List TI)(st:St)(N d:Nat)(t:TypeId)(len:Nat)(parts:List (Nat×Operand)):Option MR:=
 match evBSl Γ st t len parts with
 | some (e,⟨T,l⟩)=>bif Nat.blt d N&&!st.d (fresh st d 8 0) then some ⟨true,qjc parts++[.d (fresh st d 8 0)],[.d (fresh st d 8 0),.a (fresh st d 8 0) (some (.arr e T l)),.r d (.own (fresh st d 8 0))]⟩ else none
 | none=>none
def qrO(Γ:List TI)(st:St)(N d:Nat)(t:TypeId)(len:Nat)(parts:List (Nat×Operand)):Option MR:=
 match evBSl Γ st t len parts with
 | some (_,⟨T,l⟩)=>bif Nat.blt d N then some ⟨true,qjc parts,[.r d (.v (.sl T) l)]⟩ else none
 | none=>none
theorem qrP(hΓ:Tys P Γ){t:TypeId}{len:Nat}{parts:List (Nat×Operand)}{e:TypeId}{T:Ty}{l:List T.den}(h:evBSl Γ st t len parts=some (e,⟨T,l⟩)){st':St}{rd:List Key}(hag:∀κ∈rd,agree st st' κ)(hrd:∀κ∈qjc parts,κ∈rd)
  {F:Nat->Prop} {U:Env} {a:Act} {w:World} (hr:Rel' P w0 M N F U st' a w):∃arr',(Instr.buildSlice t len (parts.toArray.map fun(i,x)=>(i,a.eval x))).run P w=.ok (.slice (some ⟨w.heap.size,0,none⟩) len len) (w.alloc (.cells arr' e))∧
   ObOk F (w.alloc (.cells arr' e)) (.arr e T l) (.slice (some ⟨w.heap.size,0,none⟩) len len):=by
 unfold evBSl at h;split at h
 ·rename_i i hl;obtain⟨hi,rfl⟩:=qao hΓ hl;split at h
  ·rename_i e hd;split at h
   ·rename_i j hl2;obtain⟨hj,rfl⟩:=qao hΓ hl2;generalize hc:(Nat.beq j.size j.T.size&&Nat.blt 0 j.size&&Nat.ble (len*j.size) 16777216&&j.zero.cells.toList.all (·.oneCell')&&Nat.beq j.zero.cells.size j.size)=c at h;cases c with
    | false=>cases h
    | true=>
     simp only[zb] at h;simp only[z8] at hc;obtain⟨⟨⟨⟨c3,c4⟩,c5⟩,c6⟩,c7⟩:=hc;rw[zS] at c4;have c3:=zd c3;have c5:=zJ c5;have c7:=zd c7;split at h
     ·rename_i cs hf;split at h
      ·rename_i l' hasm;injection h with h; injection h with h1 h2; subst h1
       injection h2 with h2 h3; subst h2; have h3:=eq_of_heq h3; subst h3
       have hu:=hi.und;rw[hd] at hu
       let z0:Array Value:=if len*j.size=0 then #[] else j.zero.cells
       let base:Array Value:=(Array.range (len*j.size)).map (z0[· % z0.size]!)
       have hbase:∀x∈base,x.oneCell'=true:=by
        intro x hx;simp only[base,Array.mem_map,Array.mem_range] at hx;obtain⟨q,hq,rfl⟩:=hx;have hne:len*j.size≠0:=by omega
        have hz0:z0=j.zero.cells:=by simp only[z0]; rw[if_neg hne]
        have hall:∀v∈z0,v.oneCell'=true:=by
         rw[hz0];simp only[zq] at c6;intro v hv; exact c6 v (by simpa using hv)
        have hlt:q%z0.size<z0.size:=Nat.mod_lt _ (by rw[hz0,c7]; exact c4)
        rw[getElem!_pos z0 _ hlt];exact hall _ (Array.getElem_mem hlt)
       have hDC:DenCs P F w U (List.replicate (len*j.size) (zsv j.zero)) (fun q=>base[q]?) base.size:=by
        refine⟨by simp[base],fun q s x hs hx=>?_⟩
        have:s=zsv j.zero:=by
         have:=zK hs;exact(List.mem_replicate.1 this).2
        subst this;refine⟨?_,hbase x (Array.mem_of_getElem? hx)⟩
        have hne:len*j.size≠0:=fun e=>by
         have hb:base.size=0:=by simp[base,e]
         have:=(z01.1 hx).1;omega
        have hz0:z0=j.zero.cells:=by simp only[z0]; rw[if_neg hne]
        simp only[base,hz0] at hx;exact qEj hx
       obtain⟨arr',k1,k2⟩:=qmU hr.mem.one (fun i=>some (i*j.size,j.size)) (parts.map fun p=>(p.1,st.ev p.2)) (parts.map fun p=>(p.1,a.eval p.2)) _ cs _ hDC (by simp) (by
        intro q p p' hp hq;rw[zH] at hp hq;cases hx:parts[q]? with
        | none=>rw[hx] at hq; cases hq
        | some r=>
         rw[hx] at hp hq;simp only[zf1,zt1] at hp hq;subst hp hq;exact⟨rfl,hr.evx hag (fun κ hκ=>hrd κ (qhq (zK hx) κ hκ))⟩) hf
       have hrun:(Instr.buildSlice i.t len (parts.toArray.map fun(i,x)=>(i,a.eval x))).run P w=.ok (.slice (some ⟨w.heap.size,0,none⟩) len len) (w.alloc (.cells arr' j.t)):=by
        have hb:¬(len*j.size>2^24):=by omega
        unfold Instr.buildSlice;simp only[zl,zu hu,zh,run_sizeOf' hj,if_neg hb];by_cases h0:len*j.size=0
        ·simp only[base,z0,if_pos h0] at k1;rw[if_pos h0];simp only[zl,zn,zh,zr1,k1,newRow,run_newObj];rfl
        ·simp only[base,z0,if_neg h0] at k1;rw[if_neg h0];simp only[zl,zn,zh,run_zeroValue' hj,zr1,k1,newRow,run_newObj];rfl
       obtain⟨m1,m2,m3⟩:=qxN (P:=P) (F:=F) (w:=w) (U:=U) (vs:=arr'.toList) hasm (by simpa using k2.1) (fun q s u hs hu=>(k2.2 q s u hs (by simpa using hu)).1)
       have hob:ObOk F (w.alloc (.cells arr' j.t)) (.arr j.t j.T l') (.slice (some ⟨w.heap.size,0,none⟩) len len):=by
        have hlen:arr'.size=len*j.T.size:=by simpa using m2
        have hcm:len<=maxLen:=by
         have h2:len<=len*j.size:=z42 _ c4;simp only[maxLen]; omega
        refine⟨arr'.toList,.of ⟨by simp[hlen,m1],.inr ⟨w.heap.size,len,arr',by rw[m1],zN _,zm2 w _,by rw[m1]; exact zP _,hcm,hlen,?_⟩⟩,fun q x hx=>?_⟩
        ·rw[m1,<-hlen]; exact zB (by simp)
        ·exact(m3 q x hx).mono (fun _ h=>h) (fun g hF=>zJ1 w _ _ (hr.mem.fb _ hF))
       exact⟨arr',hrun,hob⟩
      ·cases h
     ·cases h
   ·cases h
  ·cases h
 ·cases h
theorem qwR(hΓ:Tys P Γ){d:Nat}{t:TypeId}{len:Nat}{parts:List (Nat×Operand)}{r:MR}(h:qt6 Γ st N d t len parts=some r):MOk P w0 M N F0 ops st (some d) (.buildSlice t len parts.toArray) rty r:=by
 unfold qt6 at h;split at h
 ·rename_i e T l hl;cases hb:(Nat.blt d N&&!st.d (fresh st d 8 0)) with
  | false=>rw[hb] at h; cases h
  | true=>
   rw[hb] at h; cases h
   rw[z8,zS,zt] at hb;intro pos af;refine RT.stepW rfl fun st' hag F U a w hr=>?_
   have hd':st'.d (fresh st d 8 0)=false:=by rw[<-hb.2]; exact(hag (.d _) (by simp)).symm
   obtain⟨arr',h1,h2⟩:=qrP hΓ hl hag (fun κ hκ=>mem_l hκ) hr
   refine⟨_,_,F,_,.inl ?_,hr.newA hd' hb.1 (qd9 w (.cells arr' e)) h2 (fun g hg=>by rw[qmS hg]; exact zP _),fun _ h=>h,fun _ h=>.inl h⟩
   simp only[execOp,zl,h1,zh,zn]
 ·cases h
theorem ob_rd{ty:TypeId}{e:Ty}{l:List e.den}{u:Value}(h:ObOk F w (.arr ty e l) u):RdV (fun g=>F g\/blkOf u=some g) w (.sl e) l u:=by
 obtain⟨xs,a2,a3⟩:=h;rcases a2.2 with⟨ad,rfl,hn⟩ | ⟨g,cap,cur,rfl,hcur,a4,a5,_⟩
 ·have:=zk1 hn;subst this;cases ad with
  | none=>exact⟨[.slice none 0 0],⟨none,0,rfl,rfl⟩,rfl⟩
  | some ad=>exact⟨[.slice (some ad) 0 0],⟨some ad,0,rfl,fun h=>by omega,zP _,zN _,fun i x hx=>by simp at hx⟩,rfl⟩
 ·refine⟨[.slice (some ⟨g,0,none⟩) l.length (cap+1)],⟨some ⟨g,0,none⟩,cap+1,rfl,fun _=>.inr rfl,a4,a5,fun i x hx=>⟨_,(a3 i x hx).mono (fun _ h=>.inl h) (fun _ _=>rfl),fun j v hj=>?_⟩⟩,rfl⟩
  rw[zr] at hj;split at hj
  ·rw[zE] at hj; exact a2.cells (g:=g) rfl _ _ hj
  ·cases hj
theorem qvJ(hΓ:Tys P Γ){d:Nat}{t:TypeId}{len:Nat}{parts:List (Nat×Operand)}{r:MR}(h:qrO Γ st N d t len parts=some r):MOk P w0 M N F0 ops st (some d) (.buildSlice t len parts.toArray) rty r:=by
 unfold qrO at h;split at h
 ·rename_i e T l hl;cases hb:Nat.blt d N with
  | false=>rw[hb] at h; cases h
  | true=>
   rw[hb] at h; cases h
   rw[zS] at hb;intro pos af;refine RT.stepW rfl fun st' hag F U a w hr=>?_
   obtain⟨arr',h1,h2⟩:=qrP hΓ hl hag (fun κ hκ=>hκ) hr
   have hg:=hr.grow (F':=fun g=>F g\/g=w.heap.size) (qd9 w (.cells arr' e)) (fun _ h=>.inl h) (fun g h=>h.elim .inl (fun h=>.inr (by omega))) (fun g h=>by
    have hs:(w.alloc (.cells arr' e)).heap.size=w.heap.size+1:=by simp
    rcases h with h | h
    ·have:=hr.mem.fb g h; omega
    ·omega)
   have hrd:=ob_rd h2;have hrd:RdV (fun g=>F g\/g=w.heap.size) (w.alloc (.cells arr' e)) (.sl T) l (.slice (some ⟨w.heap.size,0,none⟩) len len):=by
    obtain⟨cs,q1,q2⟩:=hrd;exact⟨cs,q1.mono (fun g h=>h.elim .inl fun h=>.inr (qmS h)) (fun _ _=>rfl),q2⟩
   refine⟨_,U,_,_,.inl ?_,hg.setR hb (.v hrd),fun _ h=>.inl h,fun g h=>h.elim .inl (fun h=>.inr (.inr (by have:=hr.fr.size; omega)))⟩
   simp only[execOp,zl,h1,zh,zn]
 ·cases h
/-! ### append -/
theorem qoU{e:Ty}{l:List e.den}{u:Value}(h:RdV F w (.sl e) l u):(∃c,u=.slice none 0 c/\l=[])\/∃(ad:Addr) (c:Nat) (news:List Value),u=.slice (some ad) l.length c/\news.length=l.length*e.size∧
  (∀j u,news[j]? = some u->w.cell? (ad.add j)=some u/\u.oneCell'=true)/\∀(i:Nat) (x:e.den),l[i]? = some x->RdC F w e x ((news.drop (i*e.size)).take e.size):=by
 obtain⟨cs,⟨ad,cap,rfl,h2⟩,rfl⟩:=h;cases ad with
 | none=>
  have h2:l=[]:=h2;subst h2;exact .inl ⟨cap,rfl,rfl⟩
 | some ad=>
  obtain⟨h3,h4,h5,h6⟩:=h2;have hel:∀i x,l[i]? = some x->∃es,RdC F w e x es/\∀j v,es[j]? = some v->w.cell? (ad.add (i*e.size+j))=some v:=h6;have hcell:∀i j,i<l.length->j<e.size->∃u,w.cell? (ad.add (i*e.size+j))=some u/\u.oneCell'=true:=by
   intro i j hi hj;obtain⟨es,a1,a2⟩:=hel i _ (zj hi);have hjl:j<es.length:=by rw[a1.size]; exact hj
   exact⟨es[j],a2 j _ (zj hjl),a1.one _ (zc3 hjl)⟩
  refine .inr ⟨ad,cap,(List.range (l.length*e.size)).map fun j=>(w.cell? (ad.add j)).getD undef,rfl,by simp,fun j u hu=>?_,fun i x hx=>?_⟩
  ·have hj:j<l.length*e.size:=by simpa using (zp.1 hu).1
   have hk:0<e.size:=by
    rcases za2 e.size with h0 | h0
    ·rw[h0] at hj; simp at hj
    ·exact h0
   obtain⟨v,b1,b2⟩:=hcell (j/e.size) (j%e.size) (zV2 (by rw[zd2]; exact hj)) (Nat.mod_lt _ hk)
   rw[show j/e.size*e.size+j%e.size=j by rw[zd2]; exact z13 j e.size] at b1
   simp[hj,b1] at hu;subst hu; exact⟨b1,b2⟩
  ·obtain⟨es,a1,a2⟩:=hel i x hx;have hi:i<l.length:=(zp.1 hx).1;have hrow:i*e.size+e.size<=l.length*e.size:=by
    have:=zD e.size (show i+1<=l.length from hi)
    rwa[z61,zH1] at this
   have hes:((((List.range (l.length*e.size)).map fun j=>(w.cell? (ad.add j)).getD undef).drop (i*e.size)).take e.size)=es:=by
    apply zR1;intro q;by_cases hq:q<e.size
    ·rw[zr,if_pos hq,zE];have hqe:q<es.length:=by rw[a1.size]; exact hq
     have:=a2 q _ (zj hqe);simp[show i*e.size+q<l.length*e.size by omega,this,hqe]
    ·rw[zr,if_neg hq,zy1 (by rw[a1.size]; omega)]
   rw[hes]; exact a1
theorem qrq{b:Nat}{ty:TypeId}{e:Ty}{l:List e.den}{u:Value}(h:MemOk P F w U st)(hA:st.a b=some (.arr ty e l))(hρ:U b=some u):(∃c,u=.slice none 0 c/\l=[])\/∃(ad:Addr) (c:Nat) (news:List Value),u=.slice (some ad) l.length c/\news.length=l.length*e.size∧
  (∀j u,news[j]? = some u->w.cell? (ad.add j)=some u/\u.oneCell'=true)/\∀(i:Nat) (x:e.den),l[i]? = some x->RdC F w e x ((news.drop (i*e.size)).take e.size):=by
 obtain⟨u',a1,xs,a2,a3⟩:=h.arr b _ hA;rw[hρ] at a1; cases a1
 rcases a2.2 with⟨ad,rfl,hn⟩ | ⟨g,cap,cur,rfl,hcur,_⟩
 ·have hl0:=zk1 hn;subst hl0;cases ad with
  | none=>exact .inl ⟨_,rfl,rfl⟩
  | some ad=>exact .inr ⟨ad,0,[],rfl,by simp,fun j u hu=>by simp at hu,fun i x hx=>by simp at hx⟩
 ·refine .inr ⟨⟨g,0,none⟩,cap+1,xs,rfl,a2.1,fun j u hu=>⟨a2.cells (g:=g) rfl j u hu,?_⟩,a3⟩
  have hj:j<l.length*e.size:=by rw[<-a2.1]; exact(zp.1 hu).1
  have hk:0<e.size:=by
   rcases za2 e.size with h0 | h0
   ·rw[h0] at hj; simp at hj
   ·exact h0
  have hi:j/e.size<l.length:=zV2 (by rw[zd2]; exact hj)
  have hd:=a3 (j/e.size) _ (zj hi);refine hd.one u ?_
  have e1:((xs.drop (j/e.size*e.size)).take e.size)[j%e.size]? = some u:=by
   rw[zr,if_pos (Nat.mod_lt _ hk),zE,show j/e.size*e.size+j%e.size=j by rw[zd2]; exact z13 j e.size]
   exact hu
  exact zK e1
def oldOf(st:St)(te:TypeId)(e:Ty):SV->Option (List e.den×List Key×List Wr)
 | .raw (.slice none 0 0)=>some ([],[],[])
 | .own b=>match st.a b with
  | some A=>match A.as e with
   | some l=>bif Nat.beq A.ty te then some (l,[.a b],[.a b none]) else none
   | none=>none
  | none=>none
 | _=>none
def qxP(st:St)(e:Ty):SV->Option (List e.den×List Key)
 | .own b=>match st.a b with
  | some A=>match A.as e with
   | some l=>some (l,[.a b])
   | none=>none
  | none=>none
 | s=>match s.as (.sl e) with
  | some l=>some (l,[])
  | none=>none
def qt7(Γ:List TI)(st:St)(N d:Nat)(t t2:TypeId)(x y:Operand):Option MR:=
 match look Γ t with
 | some i=>match i.desc with
  | .slice e=>match look Γ e with
   | some j=>bif Nat.blt d N&&!st.d (fresh st d 8 0)&&Nat.beq j.size j.T.size&&Nat.blt 0 j.size&&Nat.blt 0 j.bytes&&Nat.beq j.zero.cells.size j.size&&Nat.beq t t2 then
     match oldOf st e j.T (st.ev x),qxP st j.T (st.ev y) with
     | some (l,ks,ws),some (l2,ks2)=>some ⟨fits (l.length+l2.length) j.bytes,qaa x++(qaa y++(.d (fresh st d 8 0)::(ks++ks2))),ws++[.d (fresh st d 8 0),.a (fresh st d 8 0) (some (.arr e j.T (l++l2))),.r d (.own (fresh st d 8 0))]⟩
     | _,_=>none
    else none
   | none=>none
  | _=>none
 | none=>none
theorem qjW{e:Ty}{l l2:List e.den}{xs news:List Value}{w':World}(h1:xs.length=l.length*e.size)(hx:∀(i:Nat) (x:e.den),l[i]? = some x->RdC F w' e x ((xs.drop (i*e.size)).take e.size))
  (hn:∀(i:Nat) (x:e.den),l2[i]? = some x->RdC F w' e x ((news.drop (i*e.size)).take e.size)) (i:Nat) (x:e.den) (h:(l++l2)[i]? = some x):RdC F w' e x (((xs++news).drop (i*e.size)).take e.size):=by
 by_cases hi:i<l.length
 ·rw[zY hi] at h;have hrow:i*e.size+e.size<=l.length*e.size:=by
   have:=zD e.size (show i+1<=l.length from hi)
   rwa[z61,zH1] at this
  rw[zx1 (by omega),zl1 (by simp; omega)]
  exact hx i x h
 ·rw[zX (by omega)] at h
  have:=hn _ x h;have e1:i*e.size=xs.length+(i-l.length)*e.size:=by
   rw[h1,<-z61]; congr 1; omega
  rw[e1,zW1,z21 (by omega),zF,z32]
  exact this
theorem qwS(hΓ:Tys P Γ){d:Nat}{t t2:TypeId}{x y:Operand}{r:MR}(h:qt7 Γ st N d t t2 x y=some r)(hg:r.g=true):
  MOk P w0 M N F0 ops st (some d) (.call { callee:=.builtin .append,args:=#[x,y],argTypes:=#[t,t2] }) rty r:=by
 unfold qt7 at h;split at h
 ·rename_i i hl;obtain⟨hi,rfl⟩:=qao hΓ hl;split at h
  ·rename_i e hd;split at h
   ·rename_i j hl2;obtain⟨hj,rfl⟩:=qao hΓ hl2;generalize hc:(Nat.blt d N&&!st.d (fresh st d 8 0)&&Nat.beq j.size j.T.size&&Nat.blt 0 j.size&&Nat.blt 0 j.bytes&&Nat.beq j.zero.cells.size j.size&&Nat.beq i.t t2)=c at h;cases c with
    | false=>cases h
    | true=>
     simp only[zb] at h;simp only[z8,zt] at hc;obtain⟨⟨⟨⟨⟨⟨c1,c2⟩,c3⟩,c4⟩,c5⟩,c6⟩,c7⟩:=hc;rw[zS] at c1 c4 c5;have c3:=zd c3;have c6:=zd c6;have c7:=zd c7;subst c7;split at h
     ·rename_i l ks ws l2 ks2 hold hnew;cases h
      have hfit:=zJ hg;have hbig:l.length+l2.length<=140737488355328:=zA (z42 _ c5) hfit;intro pos af;refine RT.stepW rfl fun st' hag F U a w hr=>?_
      have hd':st'.d (fresh st d 8 0)=false:=by rw[<-c2]; exact(hag (.d _) (by simp)).symm
      have hu:=hi.und;rw[hd] at hu;have hxd:=hr.evx hag (fun _ h=>mem_l h) (x:=x)
      have hyd:=hr.evx hag (fun _ h=>mem_r (mem_l h)) (x:=y)
      have hinfo:=hj.info
      -- the news
      have hns:(∃c,a.eval y=.slice none 0 c/\l2=[])\/∃(ad:Addr) (c:Nat) (news:List Value),a.eval y=.slice (some ad) l2.length c/\news.length=l2.length*j.T.size∧
        (∀q u,news[q]? = some u->w.cell? (ad.add q)=some u/\u.oneCell'=true)/\∀(q:Nat) (x:j.T.den),l2[q]? = some x->RdC F w j.T x ((news.drop (q*j.T.size)).take j.T.size):=by
       unfold qxP at hnew;split at hnew
       ·rename_i b hy;split at hnew
        ·rename_i A hA;split at hnew
         ·rename_i l' hl';injection hnew with hnew; injection hnew with e1 e2; subst e1 e2
          have hA':st'.a b=some A:=by rw[<-hA]; exact(hag (.a b) (by simp)).symm
          rw[Ob.as_spec hl'] at hA';rw[hy] at hyd;generalize a.eval y=u at hyd ⊢;cases hyd with
          | own hρ=>exact qrq hr.mem hA' hρ
         ·cases hnew
        ·cases hnew
       ·split at hnew
        ·rename_i l' hl';injection hnew with hnew; injection hnew with e1 e2; subst e1 e2
         exact qoU (qqJ hl' hyd)
        ·cases hnew
      -- the array that is appended to
      have hos:(a.eval x=.slice none 0 0/\l=[]/\ws=[])\/∃b A u,a.eval x=u/\ws=[.a b none]/\st'.a b=some A/\U b=some u/\A=.arr j.t j.T l:=by
       unfold oldOf at hold;split at hold
       ·rename_i hx;injection hold with hold; injection hold with e1 e2; injection e2 with e2 e3; subst e1 e2 e3
        rw[hx] at hxd;generalize a.eval x=u at hxd ⊢;cases hxd with
        | raw=>exact .inl ⟨rfl,rfl,rfl⟩
       ·rename_i b hx;split at hold
        ·rename_i A hA;split at hold
         ·rename_i l' hl';cases hb:Nat.beq A.ty j.t with
          | false=>rw[hb] at hold; cases hold
          | true=>
           rw[hb] at hold; injection hold with hold; injection hold with e1 e2; injection e2 with e2 e3; subst e1 e2 e3
           have hA':st'.a b=some A:=by rw[<-hA]; exact(hag (.a b) (by simp)).symm
           rw[hx] at hxd;generalize a.eval x=u at hxd ⊢;cases hxd with
           | own hρ=>exact .inr ⟨b,A,u,rfl,rfl,hA',hρ,by rw[Ob.as_spec hl',zd hb]⟩
         ·cases hold
        ·cases hold
       ·cases hold
      have hob0:∃xs,OwnR w j.t j.size (a.eval x) l.length xs/\∀(q:Nat) (x:j.T.den),l[q]? = some x->RdC F w j.T x ((xs.drop (q*j.T.size)).take j.T.size):=by
       rcases hos with⟨h1,h2,_⟩ | ⟨b,A,u,h1,_,h3,h4,h5⟩
       ·subst h2; rw[h1]; exact⟨[],OwnR.nil w j.t j.size none,fun q x hx=>by simp at hx⟩
       ·obtain⟨u',g1,xs,g2,g3⟩:=hr.mem.arr b A h3 |> fun h=>by rw[h5] at h; exact h
        rw[h4] at g1; cases g1
        rw[h1,c3]; exact⟨xs,g2,g3⟩
      obtain⟨xs,ho1,ho2⟩:=hob0;have happ:∃v' w',(Builtin.append_ #[i.t,i.t] rty #[a.eval x,a.eval y]).run P w=.ok v' w'/\ObOk F w' (.arr j.t j.T (l++l2)) v'/\Fr w (fun g=>blkOf (a.eval x)=some g) w'/\(blkOf v'=blkOf (a.eval x)\/∀g,blkOf v'=some g->w.heap.size<=g)/\(a.eval x=.slice none 0 0->Fr w (fun _=>False) w'/\∀g,blkOf v'=some g->w.heap.size<=g):=by
       have hFne:∀g,F g->∀row,blkOf (a.eval x)=row->some g≠row:=by
        intro g hF row hrow e;subst e;rcases hos with⟨h1,_⟩ | ⟨b,A,u,h1,_,h3,h4,_⟩
        ·rw[h1] at hrow; cases hrow
        ·rw[h1] at hrow;exact hr.mem.own b u g (.inr (by rw[h3]; simp)) h4 hrow hF
       rcases hns with⟨c,hy1,hy2⟩ | ⟨ad,c,news,hy1,hy2,hy3,hy4⟩
       ·subst hy2;have hr1:=qwN (P:=P) (w:=w) i.t rty j.t j.size j.bytes j.zero hu hinfo (a.eval x) l.length xs ho1 c;rw[<-hy1] at hr1;refine⟨_,w,hr1,⟨xs,by rw[zG,<-c3]; exact ho1,by rw[zG]; exact ho2⟩,Fr.refl w _,.inl rfl,fun hnil=>⟨Fr.refl w _,fun g hg=>by rw[hnil] at hg; cases hg⟩⟩
       ·obtain⟨v',w',k1,k2,k3,k4⟩:=qoT (P:=P) (w:=w) i.t rty j.t j.size j.bytes j.zero hu hinfo c6 c4 (a.eval x) l.length xs ho1 ad l2.length c news (by rw[hy2,c3]) (fun q u h=>(hy3 q u h).1) (fun u hu=>by
         obtain⟨q,hq⟩:=zq1 hu; exact(hy3 q u hq).2) (by simp only[maxLen]; omega) hfit
        rw[<-hy1] at k1;have hFw:∀g,F g->w'.heap[g]? = w.heap[g]?:=fun g hF=>k3.block g (hr.mem.fb g hF) (hFne g hF _ rfl)
        have hc':∀g,F g->w'.heap[g]? = w.heap[g]?:=hFw;have hfr:Fr w (fun g=>blkOf (a.eval x)=some g) w':=⟨k3.os,k3.tape,k3.output,k3.size,fun g hg hn=>k3.block g hg (fun e=>hn e.symm)⟩
        refine⟨v',w',k1,⟨xs++news,by rw[ze,<-c3]; exact k2,fun q z hz=>qjW (by rw[<-c3]; exact ho1.1) (fun q z hz=>(ho2 q z hz).mono (fun _ h=>h) hc') (fun q z hz=>(hy4 q z hz).mono (fun _ h=>h) hc') q z hz⟩,hfr,?_,fun hnil=>⟨⟨k3.os,k3.tape,k3.output,k3.size,fun g hg _=>k3.block g hg (by rw[hnil]; intro e; cases e)⟩,?_⟩⟩
        ·exact k4
        ·intro g hg;rcases k4 with k4 | k4
         ·rw[k4,hnil] at hg; cases hg
         ·exact k4 g hg
      obtain⟨v',w',k1,k2,k3,k4,k5⟩:=happ;have hexec:(execOp a.eval ⟨some d,.call { callee:=.builtin .append,args:=#[x,y],argTypes:=#[i.t,i.t] },rty,pos,af,none⟩).run P w=.ok (.value v') w':=by
       simp only[execOp,resolve,invoke,builtin,zl,zn,zh,zr1,z81,zK1,k1]
      rcases hos with⟨h1,h2,h3⟩ | ⟨b,A,u,h1,h2,h3,h4,h5⟩
      ·subst h3;obtain⟨k6,k7⟩:=k5 h1;exact⟨v',_,F,w',.inl hexec,hr.newA hd' c1 k6 k2 k7,fun _ h=>h,fun _ h=>.inl h⟩
      ·subst h2;rw[h1] at k3 k4;exact⟨v',_,F,w',.inl hexec,hr.replA hd' c1 h3 h4 k3 k2 k4,fun _ h=>h,fun _ h=>.inl h⟩
     ·cases h
   ·cases h
  ·cases h
 ·cases h
/-! ### make -/
def makeG(b:Nat)(m:Int):Bool:=decide (0<=m)&&decide ((b:Int)*m<=281474976710656)
def qt8:Operand->Operand->Bool
 | .tmp t,.tmp t'=>Nat.beq t t'
 | _,_=>false
def qz6(Γ:List TI)(st:St)(N d:Nat)(t:TypeId)(x y:Operand):Option MR:=
 match look Γ t with
 | some i=>match i.desc with
  | .slice e=>match look Γ e with
   | some j=>bif Nat.blt d N&&!st.d (fresh st d 8 0)&&Nat.beq j.size j.T.size&&Nat.blt 0 j.size&&Nat.blt 0 j.bytes&&Nat.beq j.zero.cells.size j.size then
     match(st.ev x).int?,(st.ev y).int?,asm j.T (zeroC j.zero) with
     | some (.i64,m),some (.i64,m'),some (z,[])=>some ⟨_root_.cond (qt8 x y) (makeG j.bytes m) ((decide (0<=m)&&decide (m<=m'))&&makeG j.bytes m'),qaa x++(qaa y++[.d (fresh st d 8 0)]),[.d (fresh st d 8 0),.a (fresh st d 8 0) (some (.arr e j.T (List.replicate m.toNat z))),.r d (.own (fresh st d 8 0))]⟩
     | _,_,_=>none
    else none
   | none=>none
  | _=>none
 | none=>none
theorem qz7(hΓ:Tys P Γ){d:Nat}{t:TypeId}{x y:Operand}{r:MR}(h:qz6 Γ st N d t x y=some r)(hg:r.g=true):MOk P w0 M N F0 ops st (some d) (.makeSlice t x y) rty r:=by
 unfold qz6 at h;split at h
 ·rename_i i hl;obtain⟨hi,rfl⟩:=qao hΓ hl;split at h
  ·rename_i e hd;split at h
   ·rename_i j hl2;obtain⟨hj,rfl⟩:=qao hΓ hl2;generalize hc:(Nat.blt d N&&!st.d (fresh st d 8 0)&&Nat.beq j.size j.T.size&&Nat.blt 0 j.size&&Nat.blt 0 j.bytes&&Nat.beq j.zero.cells.size j.size)=c at h;cases c with
    | false=>cases h
    | true=>
     simp only[zb] at h;simp only[z8,zt] at hc;obtain⟨⟨⟨⟨⟨c1,c2⟩,c3⟩,c4⟩,c5⟩,c6⟩:=hc;rw[zS] at c1 c4 c5;have c3:=zd c3;have c6:=zd c6;split at h
     ·rename_i m m' z hm hm' hz;cases h
      obtain⟨hm0,hle,g1,g2⟩:0<=m/\m<=m'/\0<=m'/\(j.bytes:Int)*m'<=281474976710656:=by
       have hg':_root_.cond (qt8 x y) (makeG j.bytes m) ((decide (0<=m)&&decide (m<=m'))&&makeG j.bytes m')=true:=hg;cases hst:qt8 x y with
       | true=>
        rw[hst] at hg';have hxy:x=y:=by
         cases x <;> cases y <;> first | (simp only[qt8] at hst; rw[zd hst]) | cases hst
        subst hxy; rw[hm] at hm'; injection hm' with hm'; injection hm' with _ hm'; subst hm'
        simp only[zb,makeG,z8,zi] at hg';exact⟨hg'.1,Int.le_refl _,hg'.1,hg'.2⟩
       | false=>
        rw[hst] at hg';simp only[zc,makeG,z8,zi] at hg';exact⟨hg'.1.1,hg'.1.2,hg'.2.1,hg'.2.2⟩
      intro pos af;refine RT.stepW rfl fun st' hag F U a w hr=>?_
      have hd':st'.d (fresh st d 8 0)=false:=by rw[<-c2]; exact(hag (.d _) (by simp)).symm
      have hu:=hi.und;rw[hd] at hu;have hxd:=(hr.evx hag (fun _ h=>mem_l h) (x:=x)).int hm
      have hyd:=(hr.evx hag (fun _ h=>mem_r (mem_l h)) (x:=y)).int hm'
      obtain⟨inf,i1,i2,i3,i4⟩:=hj.info;have hmm:((m.toNat:Nat):Int)=m:=by omega
      have hmm':((m'.toNat:Nat):Int)=m':=by omega
      have hb:(inf.bytes:Int)*m'<=281474976710656:=by rw[i3]; exact g2
      have hsm:m'.toNat<=281474976710656:=by
       have h1:inf.bytes*m'.toNat<=281474976710656:=by
        have h2:((inf.bytes*m'.toNat:Nat):Int)=(inf.bytes:Int)*m':=by rw[Int.natCast_mul,hmm']
        omega
       rw[i3] at h1; exact zA (Nat.le_mul_of_pos_left _ c5) h1
      have r1:=run_make (P:=P) w i.t j.t inf j.zero hu i1 i4 .i64 .i64 m m' hm0 hle hb (by omega)
      rw[i2,c3] at r1;obtain⟨w',hw'⟩:∃w',w'=w.alloc (.cells (madeCells j.zero.cells (m'.toNat*j.T.size)) j.t):=⟨_,rfl⟩;have r3:w.grownBy w' none:=by rw[hw']; exact World.grownBy_alloc w _ none
      have hmle:m.toNat<=m'.toNat:=by omega
      have hcsz:(madeCells j.zero.cells (m'.toNat*j.T.size)).size=m'.toNat*j.T.size:=size_madeCells _ _;have hmk:m.toNat*j.T.size<=m'.toNat*j.T.size:=zD _ hmle;have r2:w'.ownsRow 0 j.t j.T.size (.slice (some ⟨w.heap.size,0,none⟩) m.toNat m'.toNat) m.toNat ((madeCells j.zero.cells (m'.toNat*j.T.size)).toList.take (m.toNat*j.T.size)):=by
       refine⟨by rw[zm,zn1,hcsz]; omega,.inr ⟨w.heap.size,m'.toNat,_,rfl,zN _,by rw[hw']; exact zm2 w _,hmle,by unfold maxLen; omega,hcsz,rfl⟩⟩
      have hfr:Fr w (fun _=>False) w':=⟨r3.os,r3.tape,r3.output,r3.size,fun g hg _=>r3.block g hg (fun e=>by cases e)⟩
      obtain⟨z1,z2,z3⟩:=qom (P:=P) (F:=F) (w:=w) (U:=U) (vs:=j.zero.cells.toList) hz (by simp[zeroC]) (fun q s u hs hu=>by
       simp only[zeroC,zH] at hs;rw[hu] at hs; cases hs; exact qwz u)
      have hzz:j.zero.cells.toList.take j.T.size=j.zero.cells.toList:=zB (by simp; omega)
      rw[hzz] at z2;have hob:ObOk F w' (.arr j.t j.T (List.replicate m.toNat z)) (.slice (some ⟨w.heap.size,0,none⟩) m.toNat m'.toNat):=by
       refine⟨_,by rw[zc2]; exact .of r2,fun q x hx=>?_⟩
       have hq:q<m.toNat:=by have:=(zp.1 hx).1; simpa using this
       obtain rfl:x=z:=(List.mem_replicate.1 (zK hx)).2;have hrow:q*j.T.size+j.T.size<=m.toNat*j.T.size:=by
        have:=zD j.T.size (show q+1<=m.toNat from hq)
        rwa[z61,zH1] at this
       have he:((((madeCells j.zero.cells (m'.toNat*j.T.size)).toList.take (m.toNat*j.T.size)).drop (q*j.T.size)).take j.T.size)=j.zero.cells.toList:=by
        rw[zY1,zO1,ze1 (by omega)]
        apply zR1;intro k;by_cases hk:k<j.T.size
        ·have hkz:k<j.zero.cells.size:=by omega
         have e2:(q*j.T.size+k)%j.T.size=k:=by rw[zd2,Nat.mul_add_mod,Nat.mod_eq_of_lt hk]
         rw[zr,if_pos hk,zE];simp only[madeCells,zU1,Array.getElem?_map,Array.getElem?_range]
         rw[if_pos (by omega)]
         simp only[zf1,c6,c3,e2];simp[hkz]
        ·rw[zr,if_neg hk,zy1 (by simp; omega)]
       rw[he];exact z2.mono (fun _ h=>h) (fun g hF=>hfr.blk _ (hr.mem.fb _ hF) id)
      refine⟨_,_,F,w',.inl ?_,hr.newA hd' c1 hfr hob (fun g hg=>by rw[qmS hg]; exact zP _),fun _ h=>h,fun _ h=>.inl h⟩
      simp only[execOp,hxd,hyd,r1,zl,zn,zh];rw[hw']
     ·cases h
   ·cases h
  ·cases h
 ·cases h
/-! ### append of zero values -/
def qrQ(Γ:List TI)(st:St)(N d:Nat)(t t2:TypeId)(x y:Operand):Option MR:=match d with
 | 0=>none
 | _+1=>none
theorem qvK(hΓ:Tys P Γ){d:Nat}{t t2:TypeId}{x y:Operand}{r:MR}(h:qrQ Γ st N d t t2 x y=some r)(hg:r.g=true):
  MOk P w0 M N F0 ops st (some d) (.call { callee:=.builtin .append,args:=#[x,y],argTypes:=#[t,t2] }) rty r:=by
 unfold qrQ at h;split at h <;> cases h
/-! ### A shorter one: x[:hi] of an own array -/
def qwT(Γ:List TI)(st:St)(N d:Nat)(t:TypeId)(x hi:Operand):Option MR:=
 match st.ev x,(st.ev hi).int? with
 | .own b,some (_,m)=>match st.a b with
  | some (.arr te e l)=>bif Nat.blt d N&&!st.d (fresh st d 8 0)&&qgE Γ t e.size then
    some ⟨inR 0 m l.length,qaa x++(qaa hi++[.d (fresh st d 8 0),.a b]),[.a b none,.d (fresh st d 8 0),.a (fresh st d 8 0) (some (.arr te e (l.take m.toNat))),.r d (.own (fresh st d 8 0))]⟩
   else none
  | _=>none
 | _,_=>none
theorem qy0(hΓ:Tys P Γ){d:Nat}{t:TypeId}{x hi:Operand}{r:MR}(h:qwT Γ st N d t x hi=some r)(hg:r.g=true):MOk P w0 M N F0 ops st (some d) (.slice t x none (some hi) none) rty r:=by
 unfold qwT at h;split at h
 ·rename_i b k m hx hm;split at h
  ·rename_i te e l hA;generalize hc:(Nat.blt d N&&!st.d (fresh st d 8 0)&&qgE Γ t e.size)=c at h;cases c with
   | false=>cases h
   | true=>
    simp only[zb] at h;simp only[z8,zt] at hc;obtain⟨⟨c1,c2⟩,c3⟩:=hc;rw[zS] at c1;cases h
    simp only[inR,z8,zi] at hg;obtain⟨⟨_,g1⟩,g2⟩:=hg;obtain⟨et,hu,hsz⟩:=qem hΓ c3;intro pos af;refine RT.stepW rfl fun st' hag F U a w hr=>?_
    have hd':st'.d (fresh st d 8 0)=false:=by rw[<-c2]; exact(hag (.d _) (by simp)).symm
    have hA':st'.a b=some (.arr te e l):=by rw[<-hA]; exact(hag (.a b) (by simp)).symm
    have hxd:=hr.evx hag (fun _ h=>mem_l h) (x:=x)
    have hmd:=(hr.evx hag (fun _ h=>mem_r (mem_l h)) (x:=hi)).int hm
    rw[hx] at hxd;generalize he:a.eval x=u at hxd;cases hxd with
    | own hρ=>
     obtain⟨u',q1,xs,⟨q2,q3⟩,q4⟩:=hr.mem.arr b _ hA';rw[hρ] at q1; cases q1
     have hl:(l.take m.toNat).length=m.toNat:=by simp; omega
     have hel:∀(q:Nat) (z:e.den),(l.take m.toNat)[q]? = some z->RdC F w e z (((xs.take (m.toNat*e.size)).drop (q*e.size)).take e.size):=by
      intro q z hz;have hq:q<m.toNat:=by have:=(zp.1 hz).1; omega
      rw[zr,if_pos hq] at hz;have hrow:q*e.size+e.size<=m.toNat*e.size:=by
       have:=zD e.size (show q+1<=m.toNat from hq)
       rwa[z61,zH1] at this
      have:((xs.take (m.toNat*e.size)).drop (q*e.size)).take e.size=(xs.drop (q*e.size)).take e.size:=by
       rw[zY1,zO1,ze1 (by omega)]
      rw[this]; exact q4 q z hz
     have hlx:(xs.take (m.toNat*e.size)).length=m.toNat*e.size:=by
      have:=zD e.size (show m.toNat<=l.length by omega)
      simp; omega
     have hbounds:∀n c:Nat,m.toNat<=c->(Instr.sliceBounds true n c none (some (.int k m)) none).run P w=.ok (0,m.toNat,c) w:=by
      intro n c hcc;exact qiq (P:=P) (w:=w) (isS:=true) (n:=n) (c:=c) (lo:=none) (hi:=some (k,m)) (zN _) (by simpa[bdHi] using hcc) (fun _ _ h=>by cases h) (fun _ _ h=>by injection h with h; injection h with _ h; subst h; exact g1)
     rcases q3 with⟨ad,rfl,hn⟩ | ⟨g,cap,cur,rfl,q6,q7,q8,q9,q10⟩
     ·have hm0:m=0:=by omega
      subst hm0;refine⟨.slice ad 0 0,_,F,w,.inl ?_,hr.replA (A:=.arr te e (l.take (0:Int).toNat)) hd' c1 hA' hρ (Fr.refl w _) ⟨xs.take ((0:Int).toNat*e.size),⟨by rw[hlx,hl],.inl ⟨ad,rfl,hl⟩⟩,hel⟩ (.inl rfl),fun _ h=>h,fun _ h=>.inl h⟩
      have hb:=hbounds 0 0 (zP _);simp only[execOp,he,hmd,zP1,zf1,Instr.sliceAt,Instr.slice,zl,zu hu,zh,hb,hsz,zn];simp
     ·refine⟨.slice (some ⟨g,0,none⟩) m.toNat (cap+1),_,F,w,.inl ?_,hr.replA (A:=.arr te e (l.take m.toNat)) hd' c1 hA' hρ (Fr.refl w _) ⟨xs.take (m.toNat*e.size),⟨by rw[hlx,hl],.inr ⟨g,cap,cur,by rw[hl],q6,by omega,q8,q9,?_⟩⟩,hel⟩ (.inl rfl),fun _ h=>h,fun _ h=>.inl h⟩
      ·have hb:=hbounds l.length (cap+1) (by omega)
       simp only[execOp,he,hmd,zP1,zf1,Instr.sliceAt,Instr.slice,zl,zu hu,zh,hb,hsz,zn];have hif:(if cap+1=0 then some (⟨g,0,none⟩:Addr) else some ((⟨g,0,none⟩:Addr).add (0*e.size)))=some ⟨g,0,none⟩:=by rw[zx2,add_zero']; split <;> rfl
       rw[hif]; simp
      ·rw[hl,<-q10,zO1,ze1 (zD _ (by omega))]
  ·cases h
 ·cases h
/-! ### x[lo:hi:hi] -/
def isZ:Operand->Bool
 | .const (.int _ n)=>decide (n=0)
 | _=>false
theorem qxQ{x:Operand}(h:isZ x=true):∃k,x=.const (.int k 0):=by
 unfold isZ at h;split at h
 ·rename_i k n; exact⟨k,by rw[zx h]⟩
 ·cases h
def evCut(Γ:List TI)(ow:List Nat)(st:St)(N d:Nat)(t:TypeId)(x:Operand)(lo:Option Operand)(hi mx:Operand):Option MR:=
 match st.ev x with
 | .v (.sl e) y=>bif Nat.blt d N&&qgE Γ t e.size then
   match bd st lo,(st.ev hi).int?,(st.ev mx).int? with
   | some l,some (k,h),some (_,m)=>some ⟨decide (h=m)&&cutG l (some (k,h)) (List.length (α:=e.den) y),qaa x++(qlM lo++(qaa hi++qaa mx)),[.r d (bif memN ow d then .cut e (cutL (α:=e.den) l (some (k,h)) y) else .v (.sl e) (cutL (α:=e.den) l (some (k,h)) y))]⟩
   | _,_,_=>none
  else none
 | _=>none
def elTy(Γ:List TI)(t:TypeId):Option TypeId:=
 match look Γ t with
 | some i=>match i.desc with
  | .slice e=>some e
  | _=>none
 | none=>none
def qz8(Γ:List TI)(st:St)(N d:Nat)(t:TypeId)(x hi mx:Operand):Option MR:=
 match st.ev x,elTy Γ t with
 | .v (.sl e) _,some te=>bif Nat.blt d N&&!st.d (fresh st d 8 0)&&qgE Γ t e.size&&isZ hi&&isZ mx then
   some ⟨true,qaa x++[.d (fresh st d 8 0)],[.d (fresh st d 8 0),.a (fresh st d 8 0) (some (.arr te e [])),.r d (.own (fresh st d 8 0))]⟩
  else none
 | _,_=>none
theorem qEk{F:Nat->Prop}{e:Ty}{x:List e.den}{ad:Addr}{cap L H:Nat}{w:World}(h1:0<cap->F ad.block)(h2:x.length<=cap)(h3:cap<=maxLen)
  (h4:∀(i:Nat) (y:e.den),x[i]? = some y->∃es,RdC F w e y es/\∀j v,es[j]? = some v->w.cell? (ad.add (i*e.size+j))=some v) (hL:L<=H) (hH:H<=x.length):
  RdC F w (.sl e) ((x.take H).drop L) [.slice (if H=L then some ad else some (ad.add (L*e.size))) (H-L) (H-L)]:=by
 have:=qzV (e:=e) (x:=x.take H) (ad:=ad) (cap:=H) (L:=L) (H:=H) (w:=w) (F:=F) (fun hc=>h1 (by omega)) (by simp; omega) (by omega) (fun i z hz=>h4 i z (by
  rw[zr] at hz;split at hz
  ·exact hz
  ·cases hz)) hL (by simp; omega)
 rwa[zO1,Nat.min_self] at this
theorem qCg{α:Type}{x:List α}{L H:Nat}(hH:H<=x.length):((x.take H).drop L).length=H-L:=by simp; omega
theorem qz9(hΓ:Tys P Γ){d:Nat}{t:TypeId}{x hi mx:Operand}{r:MR}(h:qz8 Γ st N d t x hi mx=some r):MOk P w0 M N F0 ops st (some d) (.slice t x none (some hi) (some mx)) rty r:=by
 unfold qz8 at h;split at h
 ·rename_i e y te hx hte;generalize hc:(Nat.blt d N&&!st.d (fresh st d 8 0)&&qgE Γ t e.size&&isZ hi&&isZ mx)=c at h;cases c with
  | false=>cases h
  | true=>
   simp only[zb] at h;simp only[z8,zt] at hc;obtain⟨⟨⟨⟨c1,c2⟩,c3⟩,c4⟩,c5⟩:=hc;rw[zS] at c1;cases h
   obtain⟨et,hu,hsz⟩:=qem hΓ c3;obtain⟨k1,rfl⟩:=qxQ c4;obtain⟨k2,rfl⟩:=qxQ c5;intro pos af;refine RT.stepW rfl fun st' hag F U a w hr=>?_
   have hd':st'.d (fresh st d 8 0)=false:=by rw[<-c2]; exact(hag (.d _) (by simp)).symm
   have hxd:=hr.evx hag (fun _ h=>mem_l h) (x:=x)
   rw[hx] at hxd;generalize he:a.eval x=u at hxd;cases hxd with
   | v hv=>
    obtain⟨cs,⟨ad,cap,rfl,h2⟩,rfl⟩:=hv;refine⟨.slice ad 0 0,_,F,w,.inl ?_,hr.newA hd' c1 (Fr.refl w _) ⟨[],OwnR.nil w te e.size ad,fun q x hx=>by simp at hx⟩ (fun g hg=>by rw[qxE] at hg; cases hg),fun _ h=>h,fun _ h=>.inl h⟩
    have hb:=qrH (P:=P) (w:=w) (n:=List.length (α:=e.den) y) (c:=cap) (lo:=none) (k:=k1) (k':=k2) (h:=0) (by omega) (zP _) (zN _) (fun _ _ h=>by cases h)
    simp only[valOf,zP1] at hb;have ek1:a.eval (.const (.int k1 0))=.int k1 0:=rfl;have ek2:a.eval (.const (.int k2 0))=.int k2 0:=rfl;simp only[execOp,he,ek1,ek2,mkV,Ty.agg,zc,zV1,zP1,zf1,Instr.sliceAt,Instr.slice,zl,zu hu,zh,hb,hsz,zn];simp[bdLo]
 ·cases h
theorem qCh(hΓ:Tys P Γ){ow:List Nat}{d:Nat}{t:TypeId}{x hi mx:Operand}{lo:Option Operand}{r:MR}(h:evCut Γ ow st N d t x lo hi mx=some r)(hg:r.g=true):MOk P w0 M N F0 ops st (some d) (.slice t x lo (some hi) (some mx)) rty r:=by
 unfold evCut at h;split at h
 ·rename_i e y hx;generalize hc:(Nat.blt d N&&qgE Γ t e.size)=c at h;cases c with
  | false=>cases h
  | true=>
   simp only[zb] at h;simp only[z8] at hc;obtain⟨c1,c3⟩:=hc;rw[zS] at c1;split at h
   ·rename_i l k h' k' m hl hh hm;cases h
    simp only[z8,zi] at hg;obtain⟨hg1,hg2⟩:=hg;subst hg1;obtain⟨et,hu,hsz⟩:=qem hΓ c3;obtain⟨b1,b2,b3,b4,b5⟩:=qro (α:=e.den) hg2;have b6:=b4 k h' rfl;simp only[bdHi] at b1 b2 b5;intro pos af;refine RT.stepW rfl fun st' hag F U a w hr=>?_
    have hxd:=hr.evx hag (fun _ h=>mem_l h) (x:=x)
    have hld:=qrI hr hag hl (fun _ h=>mem_r (mem_l h))
    have hhd:=(hr.evx hag (fun _ h=>mem_r (mem_r (mem_l h))) (x:=hi)).int hh
    have hmd:=(hr.evx hag (fun _ h=>mem_r (mem_r (mem_r h))) (x:=mx)).int hm
    rw[hx] at hxd;generalize he:a.eval x=u at hxd;cases hxd with
    | v hv=>
     obtain⟨cs,⟨ad,cap,rfl,h2⟩,rfl⟩:=hv;have hle:h'.toNat<=cap:=by
      cases ad with
      | none => have hn:List.length (α:=e.den) y=0:=by simp only at h2; rw[h2]; rfl
                omega
      | some ad=>exact zA b2 h2.2.1
     have hrd:RdC F w (.sl e) (cutL (α:=e.den) l (some (k,h')) y) [.slice (if h'.toNat=bdLo l then ad else ad.map (·.add (bdLo l*e.size))) (h'.toNat-bdLo l) (h'.toNat-bdLo l)]:=by
      rw[b5];cases ad with
      | none=>
       have hn:y=[]:=h2;subst hn;have h0:h'.toNat=0:=by have:=b2; simpa using this
       refine⟨none,h'.toNat-bdLo l,?_,?_⟩
       ·simp[h0]
       ·simp
      | some ad=>
       obtain⟨h3,h4,h5,h6⟩:=h2;have:=qEk h3 h4 h5 h6 b1 b2;simp only[zf1];exact this
     have hlen:List.length (α:=e.den) (cutL (α:=e.den) l (some (k,h')) y)=h'.toNat-bdLo l:=by rw[b5]; exact qCg b2
     refine⟨.slice (if h'.toNat=bdLo l then ad else ad.map (·.add (bdLo l*e.size))) (h'.toNat-bdLo l) (h'.toNat-bdLo l),U,F,w,.inl ?_,hr.setR c1 ?_,fun _ h=>h,fun _ h=>.inl h⟩
     ·have hb:=qrH (P:=P) (w:=w) (n:=List.length (α:=e.den) y) (c:=cap) (lo:=l) (k:=k) (k':=k') (h:=h') b6 b1 hle b3;simp only[execOp,he,hld,hhd,hmd,mkV,Ty.agg,zc,zV1,zf1,Instr.sliceAt,Instr.slice,zl,zu hu,zh,hb,hsz,zn]
     ·cases memN ow d with
      | true=>
       rw[<-hlen] at hrd ⊢;exact .cut hrd
      | false=>exact .v ⟨_,hrd,rfl⟩
   ·cases h
 ·cases h
/-! ### append to a slice that has no room -/
/-! ### append of a string's bytes -/
def qaH(l:List UInt8):List Int:=l.map fun b=>(b.toNat:Int)
def qt9(l:List UInt8):List (Ty.int .u8).den:=qaH l
theorem qvL(l:List UInt8):(qt9 l).length=l.length:=zQ (as:=l) (fun b:UInt8=>(b.toNat:Int))
theorem qwU{w:World}(t tn ty e:TypeId)(ht:P.underlying t=some (.slice e))(htn:P.underlying tn=some .string)(hi0:∃i,P.info? e=some i/\i.size=1/\i.bytes=1/\i.zero=some (.int .u8 0))
  (v:Value) (n:Nat) (xs:List Value) (hown:OwnR w e 1 v n xs) (s:ByteArray) (hm:0<n+s.size) (hbytes:n+s.size<=140737488355328):
  ∃v' w',(Builtin.append_ #[t,tn] ty #[v,.string s]).run P w=.ok v' w'/\OwnR w' e 1 v' (n+s.size) (xs++Lib.strCells s)/\w.grownBy w' (blkOf v)∧
   (blkOf v'=blkOf v\/∀g,blkOf v'=some g->w.heap.size<=g):=by
 obtain⟨i,hi,hsize,hby,hz⟩:=hi0;have h63:n+s.size<=maxLen:=by simp only[maxLen]; omega
 have hsmall:n+s.size<=9223372036854775807:=by simp only[maxLen] at h63; omega
 have hxl:xs.length=n:=by have:=hown.1; simpa using this
 have hlen:(xs++Lib.strCells s).length=(n+s.size)*1:=by rw[ze,hxl,zY2,zt2]
 have grow:∀(base:Option Addr) (cap:Nat),cap<n+s.size->
   (Builtin.append_ #[t,tn] ty #[.slice base n cap,.string s]).run P w=.ok (.slice (some ⟨w.heap.size,0,none⟩) (n+s.size) (grownCap w (n+s.size) cap e)) (w.drew.alloc (.cells (xs.toArray++(Lib.strCells s).toArray++Builtin.zeroCells (Value.int .u8 0).cells (grownCap w (n+s.size) cap e-(n+s.size))) e))->
   ∃v' w',(Builtin.append_ #[t,tn] ty #[.slice base n cap,.string s]).run P w=.ok v' w'/\OwnR w' e 1 v' (n+s.size) (xs++Lib.strCells s)/\(∀row,w.grownBy w' row)/\∀g,blkOf v'=some g->w.heap.size<=g:=by
  intro base cap hg hr;have hge:=z93 w (n+s.size) cap e;have hcm:grownCap w (n+s.size) cap e<=maxLen:=zz2 w (n+s.size) cap e h63;refine⟨_,_,hr,.of ⟨hlen,.inr ⟨w.heap.size,_,_,rfl,zN _,zm2 w.drew _,hge,hcm,?_,?_⟩⟩,fun row=>⟨rfl,rfl,rfl,by simp,fun k hk _=>zJ1 w.drew _ k hk⟩,fun g hg=>by rw[qmS hg]; exact zP _⟩
  ·have hz1:(Value.int IntKind.u8 0).cells.size=1:=rfl;simp only[z62,zA1,zP2,hz1,hxl,zY2];omega
  ·simp only[zJ2,zw];rw[<-zw,<-hlen];exact zb2
 rcases hown.to with⟨a0,rfl,hn,hx⟩ | ⟨ho,g,cap,hv⟩
 ·subst hn hx;obtain⟨v',w',q1,q2,q3,q4⟩:=grow a0 0 (by omega) (by
   cases a0 with
   | none=>
    have hr:=run_append_nil_string (P:=P) w t tn ty e i (.int .u8 0) ht htn hi hz s (by omega) (by omega) (by rw[hby]; omega)
    have e1:(s.data.map fun b=>Value.int .u8 b.toNat)=(Lib.strCells s).toArray:=by
     apply Array.ext';simp[Lib.strCells]
    rw[e1] at hr;simp only[z11,Array.empty_append];exact hr
   | some b=>exact Lib.run_append_grow_string (P:=P) w t tn ty e i (.int .u8 0) ht htn hi hz b 0 0 [] (by simp) (fun j v h=>by simp at h) s (by omega) (by omega) (by rw[hby]; exact zQ2 (by omega) (by omega)))
  exact⟨v',w',q1,q2,q3 _,.inr q4⟩
 ·subst hv;obtain⟨c,hc0,hcp⟩:∃c,c=cap+1/\0<c:=⟨_,rfl,by omega⟩
  rw[<-hc0] at ho hown ⊢;clear hc0;rcases ho.2 with⟨h,_⟩ | ⟨g',cap',cur,hv,_,hg,hnc,hcm,hcs,htake⟩
  ·cases h
  ·injection hv with h1 h2 h3
   injection h1 with h1
   injection h1 with h1
   subst h1 h3;by_cases hroom:n+s.size<=c
   ·have hcs':cur.size=c:=by simpa using hcs
    have hr:=Lib.run_append_room_string (P:=P) w t tn ty e i ht htn hi hsize g n c cur hg s hroom (by omega)
    refine⟨_,_,hr,.of ⟨hlen,.inr ⟨g,c,_,rfl,zN _,zs2 w g cur _ e _ hg,hroom,hcm,?_,?_⟩⟩,⟨rfl,rfl,rfl,by simp,fun k _ hk=>zy2 w g k _ (fun e=>hk ?_)⟩,.inl ?_⟩
    ·simp only[zA1,ze,zm,zR,zn1,zY2];omega
    ·have ht':cur.toList.take n=xs:=by simpa using htake
     rw[ht',<-hlen];exact zb2
    ·rw[e];cases c with
     | zero=>omega
     | succ c=>rfl
    ·cases c with
     | zero=>omega
     | succ c=>rfl
   ·have holds:∀j u,xs[j]? = some u->w.cell? ((⟨g,0,none⟩:Addr).add j)=some u:=ho.cells (g:=g) rfl;obtain⟨v',w',q1,q2,q3,q4⟩:=grow (some ⟨g,0,none⟩) c (by omega) (Lib.run_append_grow_string (P:=P) w t tn ty e i (.int .u8 0) ht htn hi hz ⟨g,0,none⟩ n c xs (by rw[hsize]; simpa using hxl) holds s (by omega) (by omega) (by rw[hby]; exact zQ2 (by omega) (by omega)))
    exact⟨v',w',q1,q2,q3 _,.inr q4⟩
def qua(j:TI):Bool:=match j.zero with
 | .int .u8 (.ofNat 0)=>Nat.beq j.size 1&&Nat.beq j.bytes 1
 | _=>false
theorem qy1{j:TI}(h:qua j=true):j.zero=.int .u8 0/\j.size=1/\j.bytes=1:=by
 unfold qua at h;split at h
 ·rename_i hz;rw[z8] at h;exact⟨hz,zd h.1,zd h.2⟩
 ·cases h
def qDB(Γ:List TI)(t:TypeId):Bool:=match look Γ t with
 | some i=>match i.desc with
  | .string=>true
  | _=>false
 | none=>false
def qrR(Γ:List TI)(st:St)(N d:Nat)(t t2:TypeId)(x y:Operand):Option MR:=
 match look Γ t,look Γ t2 with
 | some i,some i2=>match i.desc,i2.desc with
  | .slice e,.string=>match look Γ e with
   | some j=>bif Nat.blt d N&&!st.d (fresh st d 8 0)&&qua j then
     match oldOf st e (.int .u8) (st.ev x),(st.ev y).as .str with
     | some (l,ks,ws),some s=>some ⟨Nat.blt 0 (l.length+s.length)&&fits (l.length+s.length) 1,qaa x++(qaa y++(.d (fresh st d 8 0)::ks)),ws++[.d (fresh st d 8 0),.a (fresh st d 8 0) (some (.arr e (.int .u8) (l++qt9 s))),.r d (.own (fresh st d 8 0))]⟩
     | _,_=>none
    else none
   | none=>none
  | _,_=>none
 | _,_=>none
theorem qvM(hΓ:Tys P Γ){d:Nat}{t t2:TypeId}{x y:Operand}{r:MR}(h:qrR Γ st N d t t2 x y=some r)(hg:r.g=true):
  MOk P w0 M N F0 ops st (some d) (.call { callee:=.builtin .append,args:=#[x,y],argTypes:=#[t,t2] }) rty r:=by
 unfold qrR at h;split at h
 ·rename_i i i2 hl hl2;obtain⟨hi,rfl⟩:=qao hΓ hl;obtain⟨hi2,rfl⟩:=qao hΓ hl2;split at h
  ·rename_i e hd hd2;split at h
   ·rename_i j hl3;obtain⟨hj,rfl⟩:=qao hΓ hl3;generalize hc:(Nat.blt d N&&!st.d (fresh st d 8 0)&&qua j)=c at h;cases c with
    | false=>cases h
    | true=>
     simp only[zb] at h;simp only[z8,zt] at hc;obtain⟨⟨c1,c2⟩,c3⟩:=hc;rw[zS] at c1;obtain⟨z1,z2,z3⟩:=qy1 c3;split at h
     ·rename_i l ks ws s0 hold hs;obtain⟨s,hs2⟩:∃s:List UInt8,s=s0:=⟨s0,rfl⟩;subst hs2;cases h
      simp only[z8,zS] at hg;have hfit:=zJ hg.2;have hg1:=hg.1;have hbig:l.length+s.length<=140737488355328:=by omega
      intro pos af;refine RT.stepW rfl fun st' hag F U a w hr=>?_
      have hd':st'.d (fresh st d 8 0)=false:=by rw[<-c2]; exact(hag (.d _) (by simp)).symm
      have hu:=hi.und;rw[hd] at hu;have hu2:=hi2.und;rw[hd2] at hu2;have hxd:=hr.evx hag (fun _ h=>mem_l h) (x:=x)
      obtain⟨cs,hcs,hyd⟩:=qqJ hs (hr.evx hag (fun _ h=>mem_r (mem_l h)) (x:=y))
      have hcs':cs=[.string ⟨⟨s⟩⟩]:=hcs;subst hcs';have hyd':a.eval y=.string ⟨⟨s⟩⟩:=hyd;have hinfo:=hj.info;rw[z1,z2,z3] at hinfo;have hos:(a.eval x=.slice none 0 0/\l=[]/\ws=[])\/∃b A u,a.eval x=u/\ws=[.a b none]/\st'.a b=some A/\U b=some u/\A=.arr j.t (.int .u8) l:=by
       unfold oldOf at hold;split at hold
       ·rename_i hx;injection hold with hold; injection hold with e1 e2; injection e2 with e2 e3; subst e1 e2 e3
        rw[hx] at hxd;generalize a.eval x=u at hxd ⊢;cases hxd with
        | raw=>exact .inl ⟨rfl,rfl,rfl⟩
       ·rename_i b hx;split at hold
        ·rename_i A hA;split at hold
         ·rename_i l' hl';cases hb:Nat.beq A.ty j.t with
          | false=>rw[hb] at hold; cases hold
          | true=>
           rw[hb] at hold; injection hold with hold; injection hold with e1 e2; injection e2 with e2 e3; subst e1 e2 e3
           have hA':st'.a b=some A:=by rw[<-hA]; exact(hag (.a b) (by simp)).symm
           rw[hx] at hxd;generalize a.eval x=u at hxd ⊢;cases hxd with
           | own hρ=>exact .inr ⟨b,A,u,rfl,rfl,hA',hρ,by rw[Ob.as_spec hl',zd hb]⟩
         ·cases hold
        ·cases hold
       ·cases hold
      have hob0:∃xs,OwnR w j.t 1 (a.eval x) l.length xs/\∀(q:Nat) (x:(Ty.int .u8).den),l[q]? = some x->RdC F w (.int .u8) x ((xs.drop (q*1)).take 1):=by
       rcases hos with⟨h1,h2,_⟩ | ⟨b,A,u,h1,_,h3,h4,h5⟩
       ·subst h2; rw[h1]; exact⟨[],OwnR.nil w j.t 1 none,fun q x hx=>by simp at hx⟩
       ·obtain⟨u',g1,xs,g2,g3⟩:=hr.mem.arr b A h3 |> fun h=>by rw[h5] at h; exact h
        rw[h4] at g1; cases g1
        rw[h1]; exact⟨xs,g2,g3⟩
      obtain⟨xs,ho1,ho2⟩:=hob0;obtain⟨v',w',k1,k2,k3,k4⟩:=qwU (P:=P) (w:=w) i.t i2.t rty j.t hu hu2 hinfo (a.eval x) l.length xs ho1 ⟨⟨s⟩⟩ hg1 hbig;have hFne:∀g,F g->∀row,blkOf (a.eval x)=row->some g≠row:=by
       intro g hF row hrow e;subst e;rcases hos with⟨h1,_⟩ | ⟨b,A,u,h1,_,h3,h4,_⟩
       ·rw[h1] at hrow; cases hrow
       ·rw[h1] at hrow;exact hr.mem.own b u g (.inr (by rw[h3]; simp)) h4 hrow hF
      have hFw:∀g,F g->w'.heap[g]? = w.heap[g]?:=fun g hF=>k3.block g (hr.mem.fb g hF) (hFne g hF _ rfl)
      have hfr:Fr w (fun g=>blkOf (a.eval x)=some g) w':=⟨k3.os,k3.tape,k3.output,k3.size,fun g hg hn=>k3.block g hg (fun e=>hn e.symm)⟩
      have hob:ObOk F w' (.arr j.t (.int .u8) (l++qt9 s)) v':=by
       refine⟨xs++Lib.strCells ⟨⟨s⟩⟩,by have e:=qvL s; rw[ze,e]; exact k2,fun q x hx=>qjW (e:=.int .u8) ho1.1 (fun q x hx=>(ho2 q x hx).mono (fun _ h=>h) hFw) (fun q x hx=>?_) q x hx⟩
       have hx2:(s.map fun b=>(b.toNat:Int))[q]? = some x:=hx
       have hx3:(s[q]?).map (fun b:UInt8=>(b.toNat:Int))=some x:=(zH (f:=fun b:UInt8=>(b.toNat:Int)) (l:=s) (i:=q)).symm.trans hx2
       obtain⟨b,hb,rfl⟩:=zg1.1 hx3;show((Lib.strCells ⟨⟨s⟩⟩).drop (q*1)).take 1=[.int .u8 (b.toNat:Int)];rw[zt2];have hq:=(zp.1 hb).1;have hb2:=(zp.1 hb).2;have hql:q<(Lib.strCells ⟨⟨s⟩⟩).length:=by rw[zY2]; exact hq
       rw[z51 hql];simp[Lib.strCells,hb2]
      have hexec:(execOp a.eval ⟨some d,.call { callee:=.builtin .append,args:=#[x,y],argTypes:=#[i.t,i2.t] },rty,pos,af,none⟩).run P w=.ok (.value v') w':=by
       simp only[execOp,resolve,invoke,builtin,zl,zn,zh,zr1,z81,zK1,hyd',k1]
      rcases hos with⟨h1,h2,h3⟩ | ⟨b,A,u,h1,h2,h3,h4,h5⟩
      ·subst h3;have k6:Fr w (fun _=>False) w':=⟨k3.os,k3.tape,k3.output,k3.size,fun g hg _=>k3.block g hg (by rw[h1]; intro e; cases e)⟩
       have k7:∀g,blkOf v'=some g->w.heap.size<=g:=by
        intro g hg;rcases k4 with k4 | k4
        ·rw[k4,h1] at hg; cases hg
        ·exact k4 g hg
       exact⟨v',_,F,w',.inl hexec,hr.newA hd' c1 k6 hob k7,fun _ h=>h,fun _ h=>.inl h⟩
      ·subst h2;rw[h1] at hfr k4;exact⟨v',_,F,w',.inl hexec,hr.replA hd' c1 h3 h4 hfr hob k4,fun _ h=>h,fun _ h=>.inl h⟩
     ·cases h
   ·cases h
  ·cases h
 ·cases h
/-! ### The bytes of an array as a string, without a copy: the array is gone -/
def qbK(l:List Int):List UInt8:=l.map fun n=>UInt8.ofNat n.toNat
theorem qwV(l:List Int):(qbK l).length=l.length:=by simp[qbK]
theorem Rel'.loseA{b0:Nat}{A0:Ob}{v0:Value}{w':World}(h:Rel' P w0 M N F U st a w)(hA0:st.a b0=some A0)(hρ0:U b0=some v0)
  (hf:Fr w (fun g=>blkOf v0=some g) w'):Rel' P w0 M N F U (st.put (.a b0 none)) a w':=by
 have hp0:st.present b0:=.inr (by rw[hA0]; simp)
 have hv0:st.v b0=none:=by
  cases hx:st.v b0 with
  | none=>rfl
  | some x=>
   exfalso;obtain⟨g,arr,h1,h1b,_⟩:=h.mem.var b0 x.1 x.2 hx;obtain⟨u',h2,h3⟩:=h.mem.arr b0 A0 hA0;rw[h1] at h2; cases h2
   exact h3.novar rfl h1b
 have hpr:∀b',(st.put (.a b0 none)).present b'->b'≠b0/\st.present b':=by
  intro b' hp;by_cases e:b'=b0
  ·subst e;exfalso;rcases hp with hp | hp
   ·exact hp hv0
   ·refine hp ?_
    show(bif Nat.beq b' b' then none else st.a b')=none;simp
  ·refine⟨e,?_⟩
   rcases hp with hp | hp
   ·exact .inl hp
   ·refine .inr ?_
    have hp':(bif Nat.beq b' b0 then none else st.a b')≠none:=hp;rw[bq e] at hp'; exact hp'
 refine(h.dropA b0).move hf (fun b' v g hp hv hg hx=>?_) (fun g hF hx=>?_) (fun _ h=>h) (fun _ h=>.inl h) (fun g hF=>zw1 (h.mem.fb g hF) hf.size) (fun g hx hlt=>?_)
 ·obtain⟨h1,h2⟩:=hpr b' hp;exact h1 (h.mem.sep b' b0 v v0 g h2 hp0 hv hρ0 hg hx)
 ·exact h.mem.own b0 v0 g hp0 hρ0 hx hF
 ·rcases h.lo b0 v0 g hp0 hρ0 hx with h1 | h1
  ·exact h1
  ·exact absurd hlt (Nat.not_lt.2 h1)
def qub:Option Ob->Option (TypeId×List Int)
 | some (.arr ty (.int .u8) l)=>some (ty,l)
 | _=>none
theorem qty{A:Option Ob}{ty:TypeId}{l:List Int}(h:qub A=some (ty,l)):A=some (.arr ty (.int .u8) l):=by
 unfold qub at h;split at h
 ·injection h with h; injection h with h1 h2; subst h1 h2; rfl
 ·cases h
theorem qDC{b:Nat}{ty:TypeId}{l:List Int}{u:Value}(h:MemOk P F w U st)(hA:st.a b=some (.arr ty (.int .u8) l))(hρ:U b=some u)(h0:0<l.length):
  ∃(g cap:Nat) (cur:Array Value),u=.slice (some ⟨g,0,none⟩) l.length (cap+1)/\w.heap[g]? = some (.cells cur ty (0,0))/\l.length<=cap+1/\cap+1<=maxLen/\cur.size=cap+1∧
   ∀(j:Nat) (x:Int),l[j]? = some x->w.cell? ((⟨g,0,none⟩:Addr).add j)=some (.int .u8 x):=by
 obtain⟨u',q1,xs,hown,q4⟩:=h.arr b _ hA;rw[hρ] at q1; cases q1
 obtain⟨q2,q3⟩:=hown;rcases q3 with⟨ad,rfl,hn⟩ | ⟨g,cap,cur,rfl,q6,q7,q8,q9,q10⟩
 ·have hn':l.length=0:=hn;omega
 ·refine⟨g,cap,cur,rfl,q6,q7,q8,?_,fun j x hj=>?_⟩
  ·have:cur.size=(cap+1)*1:=q9;omega
  ·have h5:(xs.drop (j*1)).take 1=[.int .u8 x]:=q4 j x hj;rw[zt2] at h5;have h6:((xs.drop j).take 1)[0]? = some (.int .u8 x):=by rw[h5]; rfl
   rw[zr,if_pos (by omega),zE,zC1] at h6
   have hown:OwnR w ty (Ty.int .u8).size (.slice (some ⟨g,0,none⟩) l.length (cap+1)) l.length xs:=⟨q2,.inr ⟨g,cap,cur,rfl,q6,q7,q8,q9,q10⟩⟩;exact hown.cells rfl j _ h6
def qwW(st:St)(N d:Nat)(x:Operand):Option MR:=
 match st.ev x with
 | .own b=>match qub (st.a b) with
  | some (_,l)=>bif Nat.blt d N then some ⟨Nat.blt 0 l.length,qaa x++[.a b],[.r d (.ael b 1 0 0)]⟩ else none
  | none=>none
 | .raw (.slice none 0 0)=>bif Nat.blt d N then some ⟨true,qaa x,[.r d (.raw (.pointer none))]⟩ else none
 | _=>none
theorem qy2{d:Nat}{t:TypeId}{x:Operand}{r:MR}(h:qwW st N d x=some r)(hg:r.g=true):
  MOk P w0 M N F0 ops st (some d) (.call { callee:=.builtin .unsafeSliceData,args:=#[x],argTypes:=#[t] }) rty r:=by
 unfold qwW at h;split at h
 ·rename_i b hx;split at h
  ·rename_i ty l hA;cases hc:Nat.blt d N with
   | false=>rw[hc] at h; cases h
   | true=>
    rw[hc] at h; simp only[zb] at h;cases h
    simp only[zS] at hg hc;intro pos af;refine RT.stepW rfl fun st' hag F U a w hr=>?_
    have hA':st'.a b=some (.arr ty (.int .u8) l):=by rw[<-qty hA]; exact(hag (.a b) (by simp)).symm
    have hxd:=hr.evx hag (fun _ h=>mem_l h) (x:=x)
    rw[hx] at hxd;generalize he:a.eval x=u at hxd;cases hxd with
    | own hρ=>
     obtain⟨g,cap,cur,rfl,q6,q7,q8,q9,q10⟩:=qDC hr.mem hA' hρ hg;refine⟨.pointer (some ⟨g,0,none⟩),_,F,w,.inl ?_,hr.setR hc (.ael (k:=1) (i:=0) (o:=0) hρ hg),fun _ h=>h,fun _ h=>.inl h⟩
     have:=Lib.run_unsafeSliceData_row (P:=P) w #[t] rty ⟨g,0,none⟩ l.length (cap+1) (by omega)
     simp only[execOp,resolve,invoke,builtin,zl,zn,zh,zr1,z81,zK1,he];rw[this]; rfl
  ·cases h
 ·rename_i hx;cases hc:Nat.blt d N with
  | false=>rw[hc] at h; cases h
  | true=>
   rw[hc] at h; cases h
   rw[zS] at hc;intro pos af;refine RT.stepW rfl fun st' hag F U a w hr=>?_
   have hxd:=hr.evx hag (fun _ h=>h) (x:=x)
   rw[hx] at hxd;generalize he:a.eval x=u at hxd;cases hxd with
   | raw=>
    refine⟨.pointer none,_,F,w,.inl ?_,hr.setR hc (.raw _),fun _ h=>h,fun _ h=>.inl h⟩
    have:=Lib.run_unsafeSliceData_nil (P:=P) w #[t] rty 0 0;simp only[execOp,resolve,invoke,builtin,zl,zn,zh,zr1,z81,zK1,he];rw[this]; rfl
 ·cases h
def ptrTo(Γ:List TI)(pt:TypeId):Option TypeId:=match look Γ pt with
 | some i=>match i.desc with
  | .pointer e=>match look Γ e with
   | some j=>bif Nat.beq j.size 1 then some e else none
   | none=>none
  | _=>none
 | none=>none
theorem qxR(hΓ:Tys P Γ){pt e:TypeId}(h:ptrTo Γ pt=some e):P.underlying pt=some (.pointer e)/\P.cellsOf e=1:=by
 unfold ptrTo at h;split at h
 ·rename_i i hl;obtain⟨hi,rfl⟩:=qao hΓ hl;split at h
  ·rename_i e' hd;split at h
   ·rename_i j hl2;obtain⟨hj,rfl⟩:=qao hΓ hl2;cases hb:Nat.beq j.size 1 with
    | false=>rw[hb] at h; cases h
    | true=>
     rw[hb] at h; cases h
     have hu:=hi.und;rw[hd] at hu;obtain⟨inf,i1,i2,_⟩:=hj.info;exact⟨hu,by simp[Program.cellsOf,i1,i2,zd hb]⟩
   ·cases h
  ·cases h
 ·cases h
def qAa(Γ:List TI)(st:St)(N d:Nat)(pt:TypeId)(x y:Operand):Option MR:=
 match st.ev x,(st.ev y).int?,ptrTo Γ pt with
 | .raw (.pointer none),some (.i64,m),some _=>bif Nat.blt d N then some ⟨decide (m=0),qaa x++qaa y,[.r d (.v .str [])]⟩ else none
 | .ael b 1 0 0,some (.i64,m),some e=>match qub (st.a b) with
  | some (ty,l)=>bif Nat.blt d N&&Nat.beq ty e then some ⟨Nat.blt 0 l.length&&(decide (m=l.length)&&decide (qaH (qbK l)=l)),qaa x++(qaa y++[.a b]),[.a b none,.r d (.v .str (qbK l))]⟩ else none
  | none=>none
 | _,_,_=>none
theorem qAb(hΓ:Tys P Γ){d:Nat}{pt it:TypeId}{x y:Operand}{r:MR}(h:qAa Γ st N d pt x y=some r)(hg:r.g=true):
  MOk P w0 M N F0 ops st (some d) (.call { callee:=.builtin .unsafeString,args:=#[x,y],argTypes:=#[pt,it] }) rty r:=by
 unfold qAa at h;split at h
 ·rename_i m e hx hm hp;obtain⟨p1,p2⟩:=qxR hΓ hp;cases hc:Nat.blt d N with
  | false=>rw[hc] at h; cases h
  | true=>
   rw[hc] at h; cases h
   rw[zS] at hc;have hg:=zx hg;subst hg;intro pos af;refine RT.stepW rfl fun st' hag F U a w hr=>?_
   have hxd:=hr.evx hag (fun _ h=>mem_l h) (x:=x)
   have hmd:=(hr.evx hag (fun _ h=>mem_r h) (x:=y)).int hm
   rw[hx] at hxd;generalize he:a.eval x=u at hxd;cases hxd with
   | raw=>
    refine⟨.string ⟨⟨[]⟩⟩,_,F,w,.inl ?_,hr.setR hc (.v ⟨[.string ⟨⟨[]⟩⟩],rfl,rfl⟩),fun _ h=>h,fun _ h=>.inl h⟩
    have:=Lib.run_unsafeString_none (P:=P) w pt it rty none;simp only[execOp,resolve,invoke,builtin,zl,zn,zh,zr1,z81,zK1,he,hmd];rw[this]; rfl
 ·rename_i b m e hx hm hp;obtain⟨p1,p2⟩:=qxR hΓ hp;split at h
  ·rename_i ty l hA;generalize hc:(Nat.blt d N&&Nat.beq ty e)=c at h;cases c with
   | false=>cases h
   | true=>
    simp only[zb] at h;cases h
    simp only[z8,zS,zi] at hg hc;obtain⟨g0,gm,gl⟩:=hg;obtain⟨c1,c2⟩:=hc;have c2:=zd c2;subst c2;intro pos af;refine RT.stepW rfl fun st' hag F U a w hr=>?_
    have hA':st'.a b=some (.arr ty (.int .u8) l):=by rw[<-qty hA]; exact(hag (.a b) (by simp)).symm
    have hxd:=hr.evx hag (fun _ h=>mem_l h) (x:=x)
    have hmd:=(hr.evx hag (fun _ h=>mem_r (mem_l h)) (x:=y)).int hm
    rw[hx] at hxd;generalize he:a.eval x=u at hxd;cases hxd with
    | ael hρ hi=>
     rename_i g n cap;obtain⟨g',cap',cur,hh,q6,q7,q8,q9,q10⟩:=qDC hr.mem hA' hρ g0;injection hh with h1 h2 h3; injection h1 with h1; injection h1 with h1; subst h1 h2 h3
     have hf:Fr w (fun k=>blkOf (.slice (some ⟨g,0,none⟩) l.length (cap'+1))=some k) (w.freeze ⟨g,0,none⟩ (qbK l).length):=by
      unfold World.freeze;split
      ·exact Fr.refl _ _
      ·refine⟨rfl,rfl,rfl,by simp,fun k hk hn=>?_⟩
       have hne:g≠k:=fun e=>hn (by subst e; rfl)
       simp[zB2,hne]
     have hl2:=hr.loseA hA' hρ hf;refine⟨.string ⟨⟨qbK l⟩⟩,_,F,_,.inl ?_,hl2.setR c1 (.v ⟨[.string ⟨⟨qbK l⟩⟩],rfl,rfl⟩),fun _ h=>h,fun _ h=>.inl h⟩
     have hcell:∀(j:Nat) (x:UInt8),(qbK l)[j]? = some x->w.cell? ((⟨g,0,none⟩:Addr).add j)=some (.int .u8 x.toNat):=by
      intro j x hj;have hj2:(qaH (qbK l))[j]? = some (x.toNat:Int):=by unfold qaH; rw[zH,hj]; rfl
      rw[gl] at hj2;exact q10 j _ hj2
     have hlen:=qwV l;have hrun:=Lib.run_unsafeString_row (P:=P) w pt it rty ty p1 p2 g cur.size (by simp[World.shape?,q6]) (qbK l) (fun e=>by rw[e] at hlen; simp at hlen; omega) (by omega) (by unfold maxLen at q8; omega) hcell
     have hmm:(m:Int)=((qbK l).length:Nat):=by rw[hlen]; exact gm
     rw[hmm] at hmd;simp only[execOp,resolve,invoke,builtin,zl,zn,zh,zr1,z81,zK1,he,hmd,zx2,zC1];rw[hrun]; rfl
  ·cases h
 ·cases h
def cutOf(e:Ty):SV->Option (List e.den)
 | .cut e' l=>if h:e'=e then some (h ▸ l) else none
 | _=>none
def qrS(Γ:List TI)(st:St)(N d:Nat)(t t2:TypeId)(x y:Operand):Option MR:=
 match look Γ t with
 | some i=>match i.desc with
  | .slice e=>match look Γ e with
   | some j=>bif Nat.blt d N&&!st.d (fresh st d 8 0)&&Nat.beq j.size j.T.size&&Nat.blt 0 j.size&&Nat.blt 0 j.bytes&&Nat.beq j.zero.cells.size j.size&&Nat.beq t t2 then
     match cutOf j.T (st.ev x),qxP st j.T (st.ev y) with
     | some l,some (l2,ks2)=>some ⟨Nat.blt 0 l2.length&&fits (l.length+l2.length) j.bytes,qaa x++(qaa y++(.d (fresh st d 8 0)::ks2)),[.d (fresh st d 8 0),.a (fresh st d 8 0) (some (.arr e j.T (l++l2))),.r d (.own (fresh st d 8 0))]⟩
     | _,_=>none
    else none
   | none=>none
  | _=>none
 | none=>none
theorem qvN(hΓ:Tys P Γ){d:Nat}{t t2:TypeId}{x y:Operand}{r:MR}(h:qrS Γ st N d t t2 x y=some r)(hg:r.g=true):
  MOk P w0 M N F0 ops st (some d) (.call { callee:=.builtin .append,args:=#[x,y],argTypes:=#[t,t2] }) rty r:=by
 unfold qrS at h;split at h
 ·rename_i i hl;obtain⟨hi,rfl⟩:=qao hΓ hl;split at h
  ·rename_i e hd;split at h
   ·rename_i j hl2;obtain⟨hj,rfl⟩:=qao hΓ hl2;generalize hc:(Nat.blt d N&&!st.d (fresh st d 8 0)&&Nat.beq j.size j.T.size&&Nat.blt 0 j.size&&Nat.blt 0 j.bytes&&Nat.beq j.zero.cells.size j.size&&Nat.beq i.t t2)=c at h;cases c with
    | false=>cases h
    | true=>
     simp only[zb] at h;simp only[z8,zt] at hc;obtain⟨⟨⟨⟨⟨⟨c1,c2⟩,c3⟩,c4⟩,c5⟩,c6⟩,c7⟩:=hc;rw[zS] at c1 c4 c5;have c3:=zd c3;have c6:=zd c6;have c7:=zd c7;subst c7;split at h
     ·rename_i l l2 ks2 hold hnew;cases h
      simp only[z8,zS] at hg;have hfit:=zJ hg.2;have hbig:l.length+l2.length<=140737488355328:=zA (z42 _ c5) hfit;intro pos af;refine RT.stepW rfl fun st' hag F U a w hr=>?_
      have hd':st'.d (fresh st d 8 0)=false:=by rw[<-c2]; exact(hag (.d _) (by simp)).symm
      have hu:=hi.und;rw[hd] at hu;have hxd:=hr.evx hag (fun _ h=>mem_l h) (x:=x)
      have hyd:=hr.evx hag (fun _ h=>mem_r (mem_l h)) (x:=y)
      have hinfo:=hj.info;have hns:(∃c,a.eval y=.slice none 0 c/\l2=[])\/∃(ad:Addr) (c:Nat) (news:List Value),a.eval y=.slice (some ad) l2.length c/\news.length=l2.length*j.T.size∧
        (∀q u,news[q]? = some u->w.cell? (ad.add q)=some u/\u.oneCell'=true)/\∀(q:Nat) (x:j.T.den),l2[q]? = some x->RdC F w j.T x ((news.drop (q*j.T.size)).take j.T.size):=by
       unfold qxP at hnew;split at hnew
       ·rename_i b hy;split at hnew
        ·rename_i A hA;split at hnew
         ·rename_i l' hl';injection hnew with hnew; injection hnew with e1 e2; subst e1 e2
          have hA':st'.a b=some A:=by rw[<-hA]; exact(hag (.a b) (by simp)).symm
          rw[Ob.as_spec hl'] at hA';rw[hy] at hyd;generalize a.eval y=u at hyd ⊢;cases hyd with
          | own hρ=>exact qrq hr.mem hA' hρ
         ·cases hnew
        ·cases hnew
       ·split at hnew
        ·rename_i l' hl';injection hnew with hnew; injection hnew with e1 e2; subst e1 e2
         exact qoU (qqJ hl' hyd)
        ·cases hnew
      have hos:∃(a0:Option Addr) (xs:List Value),a.eval x=.slice a0 l.length l.length/\xs.length=l.length*j.T.size/\(∀q u,xs[q]? = some u->∃a,a0=some a/\w.cell? (a.add q)=some u)/\(a0=none->l.length=0)∧
        ∀(q:Nat) (x:j.T.den),l[q]? = some x->RdC F w j.T x ((xs.drop (q*j.T.size)).take j.T.size):=by
       unfold cutOf at hold;split at hold
       ·rename_i e' l' hx;split at hold
        ·rename_i he;subst he;cases hold
         rw[hx] at hxd;generalize a.eval x=u at hxd ⊢;cases hxd with
         | cut hv=>
          rename_i ad0;rcases qoU (F:=F) (w:=w) (e:=j.T) (l:=l') ⟨_,hv,rfl⟩ with⟨c,q1,q2⟩ | ⟨ad,c,news,q1,q2,q3,q4⟩
          ·subst q2;simp only[mkV,Ty.agg,zc,zV1] at q1;injection q1 with q1 _ _
           exact⟨none,[],by rw[q1],by simp,fun q u h=>by simp at h,fun _=>rfl,fun q x h=>by simp at h⟩
          ·simp only[mkV,Ty.agg,zc,zV1] at q1;injection q1 with q1 _ _
           exact⟨some ad,news,by rw[q1],q2,fun q u h=>⟨ad,rfl,(q3 q u h).1⟩,(fun h=>by cases h),q4⟩
        ·cases hold
       ·cases hold
      obtain⟨a0,xs,o1,o2,o3,o4,o5⟩:=hos;rcases hns with⟨c,hy1,hy2⟩ | ⟨ad,c,news,hy1,hy2,hy3,hy4⟩
      ·exfalso;rw[hy2] at hg;exact absurd hg.1 (by simp)
      ·obtain⟨v',w',k1,k2,k3,k4⟩:=qvG (P:=P) (w:=w) i.t rty j.t j.size j.bytes j.zero hu hinfo c6 c4 a0 l.length xs (by rw[c3]; exact o2) o3 ad l2.length c news (by rw[hy2,c3]) (fun q u h=>(hy3 q u h).1) hg.1 o4 (by simp only[maxLen]; omega) hfit
       rw[<-hy1,<-o1] at k1;have hfr:Fr w (fun _=>False) w':=⟨k3.os,k3.tape,k3.output,k3.size,fun g hg _=>k3.block g hg (fun e=>by cases e)⟩
       have hc':∀g,F g->w'.heap[g]? = w.heap[g]?:=fun g hF=>hfr.blk _ (hr.mem.fb _ hF) id
       refine⟨v',_,F,w',.inl ?_,hr.newA hd' c1 hfr ⟨xs++news,by rw[ze,<-c3]; exact k2,fun q z hz=>qjW o2 (fun q z hz=>(o5 q z hz).mono (fun _ h=>h) hc') (fun q z hz=>(hy4 q z hz).mono (fun _ h=>h) hc') q z hz⟩ k4,fun _ h=>h,fun _ h=>.inl h⟩
       simp only[execOp,resolve,invoke,builtin,zl,zn,zh,zr1,z81,zK1,k1]
     ·cases h
   ·cases h
  ·cases h
 ·cases h
/-! ### An array is appended to, and what it was lives on: both are only read from now on -/
theorem Rel'.reR(h:Rel' P w0 M N F U st a w){t:Nat}{s:SV}(hv:Den P F w U s (a.tmps.getD t undef)):Rel' P w0 M N F U (st.put (.r t s)) a w:=by
 refine⟨h.fr,h.mem.congr rfl rfl rfl rfl,h.lo,fun t'=>?_,h.sz,h.df,h.pin⟩
 show Den P F w U (bif Nat.beq t' t then s else st.r t') _;cases hb:Nat.beq t' t with
 | true=>rw[zd hb]; exact hv
 | false=>exact h.regs t'
def qrT(Γ:List TI)(st:St)(N d:Nat)(t t2:TypeId)(tx:Nat)(y:Operand):Option MR:=match d with
 | 0=>none
 | _+1=>none
theorem qvO(hΓ:Tys P Γ){d tx:Nat}{t t2:TypeId}{y:Operand}{r:MR}(h:qrT Γ st N d t t2 tx y=some r)(hg:r.g=true):
  MOk P w0 M N F0 ops st (some d) (.call { callee:=.builtin .append,args:=#[.tmp tx,y],argTypes:=#[t,t2] }) rty r:=by
 unfold qrT at h;split at h <;> cases h
def evMem(Γ:List TI)(ow:List Nat)(st:St)(N:Nat)(dst:Option Nat):Op->Option MR
 | .box t x=>match dst with
  | some d=>bif memN ow (d+3000000) then qz4 Γ st N d t x else evBox st N d t x
  | none=>none
 | .alloc t=>match dst with
  | some d=>bif memN ow (d+3000000) then qt5 Γ st N d t else qwO Γ st N d t
  | none=>none
 | .store t x y=>match dst with
  | none=>qwQ Γ st t x y
  | some _=>none
 | .buildSlice t len ⟨parts⟩=>match dst with
  | some d=>bif memN ow d then qt6 Γ st N d t len parts else qrO Γ st N d t len parts
  | none=>none
 | .makeSlice t x y=>match dst with
  | some d=>qz6 Γ st N d t x y
  | none=>none
 | .call ⟨.builtin .append,⟨[x,y]⟩,⟨[t,t2]⟩⟩=>match dst with
  | some d=>match st.ev x with
   | .cut _ _=>qrS Γ st N d t t2 x y
   | _=>bif memN ow d then(match x with | .tmp tx=>qrT Γ st N d t t2 tx y | _=>none) else bif Nat.beq t t2 then qt7 Γ st N d t t2 x y else bif qDB Γ t2 then qrR Γ st N d t t2 x y else qrQ Γ st N d t t2 x y
  | none=>none
 | .call ⟨.builtin .unsafeSliceData,⟨[x]⟩,⟨[_]⟩⟩=>match dst with
  | some d=>qwW st N d x
  | none=>none
 | .call ⟨.builtin .unsafeString,⟨[x,y]⟩,⟨[pt,_]⟩⟩=>match dst with
  | some d=>qAa Γ st N d pt x y
  | none=>none
 | .slice t x lo (some hi) (some mx)=>match dst with
  | some d=>bif lo.isNone&&isZ hi&&isZ mx then qz8 Γ st N d t x hi mx else evCut Γ ow st N d t x lo hi mx
  | none=>none
 | .slice t x none (some hi) none=>match dst with
  | some d=>bif memN ow (d+5000000) then none else qwT Γ st N d t x hi
  | none=>none
 | _=>none
theorem qxS(hΓ:Tys P Γ){ow:List Nat}{dst:Option Nat}{op:Op}{r:MR}(h:evMem Γ ow st N dst op=some r)(hg:r.g=true):MOk P w0 M N F0 ops st dst op rty r:=by
 unfold evMem at h;split at h
 all_goals first | (cases h; done) | (split at h <;> first | (cases h; done) | skip)
 ·generalize memN ow _=bo at h;cases bo with
  | true=>exact qz5 hΓ h
  | false=>exact qCe h
 ·generalize memN ow _=bo at h;cases bo with
  | true=>exact qwP hΓ h
  | false=>exact qyY hΓ h
 ·exact qyZ hΓ h
 ·rename_i d;cases ho:memN ow d with
  | true=>rw[ho] at h; exact qwR hΓ h
  | false=>rw[ho] at h; exact qvJ hΓ h
 ·exact qz7 hΓ h hg
 ·split at h
  ·exact qvN hΓ h hg
  ·generalize memN ow _=bo at h;cases bo with
   | true=>
    simp only[zb] at h;split at h
    ·exact qvO hΓ h hg
    ·cases h
   | false=>
   simp only[zc] at h;cases hb:Nat.beq _ _ with
   | true=>rw[hb] at h; exact qwS hΓ h hg
   | false=>
    rw[hb] at h; simp only[zc] at h;generalize qDB Γ _=c at h;cases c with
    | true=>exact qvM hΓ h hg
    | false=>exact qvK hΓ h hg
 ·exact qy2 h hg
 ·exact qAb hΓ h hg
 ·rename_i lo hi mx dst d;generalize hc:(lo.isNone&&isZ hi&&isZ mx)=c at h;cases c with
  | true=>
   simp only[z8] at hc;obtain rfl:lo=none:=by simpa using hc.1.1
   exact qz9 hΓ h
  | false=>exact qCh hΓ h hg
 ·generalize memN ow _=bo at h;cases bo with
  | true=>cases h
  | false=>exact qy0 hΓ h hg
end
end Go.Sq
namespace Go.Sq
open Go Go.RowKit Go.MapKept
def mdel{K V:Type}(o:KO K):List (K×V)->K->List (K×V)
 | [],_=>[]
 | p::r,x=>bif o.eq x p.1 then r else p::mdel o r x
def mins{K V:Type}(o:KO K):List (K×V)->K->V->List (K×V)
 | [],x,y=>[(x,y)]
 | p::r,x,y=>bif o.lt x p.1 then(x,y)::p::r else p::mins o r x y
def mput{K V:Type}(o:KO K)(l:List (K×V))(x:K)(y:V):List (K×V):=mins o (mdel o l x) x y
theorem qAc{K V:Type}{o:KO K}{x:K}:∀ {l:List (K×V)} {j:Nat} {p:K×V},l[j]? = some p->o.eq x p.1=true->(∀i q,l[i]? = some q->o.eq x q.1=true->i=j)->
  mget o l x=some p.2/\mdel o l x=l.eraseIdx j
 | [],j,p,h,_,_=>by simp at h
 | q::r,j,p,h,hp,hu=>by
  cases hq:o.eq x q.1 with
  | true=>
   have h0:=hu 0 q rfl hq;subst h0;simp at h; subst h;exact⟨by simp[mget,hq],by simp[mdel,hq]⟩
  | false=>
   cases j with
   | zero=>simp at h; subst h; rw[hp] at hq; cases hq
   | succ j=>
    obtain⟨a1,a2⟩:=qAc (l:=r) (j:=j) (p:=p) (by simpa using h) hp (fun i q hi he=>by have:=hu (i+1) q (by simpa using hi) he; omega)
    exact⟨by simp[mget,hq,a1],by simp[mdel,hq,a2]⟩
theorem qAd{K V:Type}{o:KO K}{x:K}:∀ {l:List (K×V)},(∀q∈l,o.eq x q.1=false)->mget o l x=none/\mdel o l x=l
 | [],_=>⟨rfl,rfl⟩
 | q::r,h=>by
  have hq:=h q (by simp)
  obtain⟨a1,a2⟩:=qAd (l:=r) fun p hp=>h p (by simp[hp])
  exact⟨by simp[mget,hq,a1],by simp[mdel,hq,a2]⟩
theorem qAe{K V:Type}(o:KO K)(x:K)(y:V):∀(l:List (K×V)),∃i,mins o l x y=l.take i++(x,y)::l.drop i
 | []=>⟨0,rfl⟩
 | p::r=>by
  unfold mins;cases o.lt x p.1 with
  | true=>exact⟨0,rfl⟩
  | false=>
   obtain⟨i,h⟩:=qAe o x y r;exact⟨i+1,by simp[h]⟩
abbrev keyI:KO Int:=keyO (.int .i64)
def keyTy:TypeDesc->Ty->Bool
 | .int q,.int q'=>decide (q=q')
 | .string,.str=>true
 | .bool,.bool=>true
 | _,_=>false
def zOk:Ty->Value->Bool
 | .int q,.int q' n=>decide (q=q')&&decide (n=0)
 | .bool,.bool b=>!b
 | .str,.string s=>s.data.toList.isEmpty
 | .fnl _,.nilFunc=>true
 | _,_=>false
section
variable {P:Program} {F:Nat->Prop} {w:World} {k v:Ty} {d:TypeDesc}
theorem qwX{x:k.den}{u:Value}(h:keyTy d k=true)(hx:RdV F w k x u):IsKey d u:=by
 obtain⟨cs,h1,rfl⟩:=hx;unfold keyTy at h;split at h
 ·cases h1; exact(zx h).symm
 ·cases h1; trivial
 ·cases h1; trivial
 ·cases h
theorem qEl{q:IntKind}{x y:Int}:(keyO (.int q)).eq x y=true↔Value.int q x=Value.int q y:=by
 show decide (x=y)=true↔_;rw[zi];exact⟨fun e=>by rw[e],fun e=>by injection e⟩
theorem qEm{x y:List UInt8}:(keyO .str).eq x y=true↔Value.string ⟨⟨x⟩⟩=Value.string ⟨⟨y⟩⟩:=by
 show decide (x=y)=true↔_;rw[zi];exact⟨fun e=>by rw[e],fun e=>by injection e with e; injection e with e; injection e⟩
theorem qCi{x y:Bool}:(keyO .bool).eq x y=true↔Value.bool x=Value.bool y:=by
 show(x==y)=true↔_;rw[zv2];exact⟨fun e=>by rw[e],fun e=>by injection e⟩
def Ty.key:Ty->Bool
 | .int _ | .str | .bool | .unit=>true
 | .pair a b=>a.key&&b.key
 | _=>false
theorem qrU:∀ {k:Ty} {x y:k.den} {cs ds:List Value},k.key=true->RdC F w k x cs->RdC F w k y ds->((keyO k).eq x y=true↔cs=ds)
 | .int q,x,y,cs,ds,_,hx,hy=>by
  cases hx; cases hy;exact qEl.trans ⟨fun e=>by rw[e],fun e=>by injection e⟩
 | .str,x,y,cs,ds,_,hx,hy=>by
  cases hx; cases hy;exact qEm.trans ⟨fun e=>by rw[e],fun e=>by injection e⟩
 | .bool,x,y,cs,ds,_,hx,hy=>by
  cases hx; cases hy;exact qCi.trans ⟨fun e=>by rw[e],fun e=>by injection e⟩
 | .unit,x,y,cs,ds,_,hx,hy=>by
  cases hx; cases hy;exact⟨fun _=>rfl,fun _=>rfl⟩
 | .pair a b,x,y,cs,ds,h,hx,hy=>by
  simp only[Ty.key,z8] at h;obtain⟨c1,c2,rfl,h1,h2⟩:=hx;obtain⟨d1,d2,rfl,h3,h4⟩:=hy;have e1:=h1.size;have e2:=h3.size;show((keyO a).eq x.1 y.1&&(keyO b).eq x.2 y.2)=true↔_;rw[z8,qrU h.1 h1 h3,qrU h.2 h2 h4];exact⟨fun e=>by rw[e.1,e.2],fun e=>List.append_inj e (by omega)⟩
theorem qEn{k:Ty}{cs ds:List Value}(h1:cs.length=k.size)(h2:ds.length=k.size):mkV k cs=mkV k ds↔cs=ds:=by
 refine⟨fun e=>?_,fun e=>by rw[e]⟩
 unfold mkV at e;cases hg:k.agg with
 | true=>
  rw[hg] at e; simp only[zb] at e;injection e with e
  have:=congrArg Array.toList e;simpa using this
 | false=>
  rw[hg] at e; simp only[zc] at e;have hs:k.size=1:=by revert hg; cases k <;> intro hg <;> first | rfl | cases hg
  rw[hs] at h1 h2;obtain⟨c,rfl⟩:=zB1.1 h1;obtain⟨c',rfl⟩:=zB1.1 h2;have e':c=c':=e;rw[e']
theorem qxT{x y:k.den}{u u':Value}(h:k.key=true)(hx:RdV F w k x u)(hy:RdV F w k y u'):(keyO k).eq x y=true↔u=u':=by
 obtain⟨cs,h1,rfl⟩:=hx;obtain⟨ds,h2,rfl⟩:=hy;exact(qrU h h1 h2).trans (qEn h1.size h2.size).symm
theorem quc:∀ {k:Ty},k.key=true->∀x y,(keyO k).eq x y=eqb k x y
 | .int _,_,_,_=>rfl
 | .str,_,_,_=>rfl
 | .bool,_,_,_=>rfl
 | .unit,_,_,_=>rfl
 | .pair a b,h,x,y=>by
  simp only[Ty.key,z8] at h;show((keyO a).eq x.1 y.1&&(keyO b).eq x.2 y.2)=(eqb a x.1 y.1&&eqb b x.2 y.2);rw[quc h.1,quc h.2]
theorem qAf(h:keyTy d k=true):k.key=true:=by
 unfold keyTy at h;split at h
 ·rfl
 ·rfl
 ·rfl
 ·cases h
theorem qFp(n:Nat)(q:IntKind)(x:Int):Instr.sameBits n (.int q x) (.int q x)=true:=by cases n <;> simp[Instr.sameBits]
theorem qFq(n:Nat)(x:ByteArray):Instr.sameBits n (.string x) (.string x)=true:=by
 have:(x==x)=true:=(bytes_beq x x).2 rfl;cases n <;> simp[Instr.sameBits,this]
theorem qEo(n:Nat)(x:Bool):Instr.sameBits n (.bool x) (.bool x)=true:=by cases n <;> simp[Instr.sameBits]
theorem qlP:∀ {k:Ty} {x:k.den} {cs:List Value},k.key=true->RdC F w k x cs->∀v∈cs,∀n,Instr.sameBits n v v=true
 | .int q,x,cs,_,hx=>by cases hx; intro v hv n; rw[zZ.1 hv]; exact qFp n q x
 | .str,x,cs,_,hx=>by cases hx; intro v hv n; rw[zZ.1 hv]; exact qFq n _
 | .bool,x,cs,_,hx=>by cases hx; intro v hv n; rw[zZ.1 hv]; exact qEo n x
 | .unit,x,cs,_,hx=>by cases hx; intro v hv; simp at hv
 | .pair a b,x,cs,h,hx=>by
  simp only[Ty.key,z8] at h;obtain⟨c1,c2,rfl,h1,h2⟩:=hx;intro v hv n;rcases zI.1 hv with hv | hv
  ·exact qlP h.1 h1 v hv n
  ·exact qlP h.2 h2 v hv n
def scalD:TypeDesc->Bool
 | .bool | .int _ | .string=>true
 | _=>false
def keyOk(Γ:List TI)(kj:TI):Bool:=keyTy kj.desc kj.T || (match kj.desc with
 | .struct fs=>eqT Γ 2 kj.t kj.T&&kj.T.key&&kj.T.agg&&fs.toList.all fun f=>match look Γ f.type with
  | some i=>scalD i.desc
  | none=>false
 | _=>false)
structure KeyV(P:Program)(w:World)(kt:TypeId)(u:Value):Prop where
 chk:∀e,(Instr.checkKey e 10000 kt u).run P w=.ok () w
 stay:(Instr.keyThatStays u u).run P w=.ok u w
theorem qAg{Γ:List TI}(hΓ:Tys P Γ){t:TypeId}{T:Ty}(h:eqT Γ 1 t T=true)(hs:(match look Γ t with | some i=>scalD i.desc | none=>false)=true){x:T.den}{cs:List Value}(hx:RdC F w T x cs):∃d,P.underlying t=some d/\IsKey d (mkV T cs):=by
 simp only[eqT] at h;split at h
 ·cases h
 ·rename_i i hl;rw[hl] at hs;obtain⟨hi,rfl⟩:=qao hΓ hl;refine⟨_,hi.und,?_⟩
  rw[z8] at h;obtain⟨_,h⟩:=h;split at h
  ·rename_i hd; rw[hd]; have:=zx h; subst this; cases hx; trivial
  ·rename_i hd; rw[hd]; have:=zx h; subst this; cases hx; exact rfl
  ·rename_i hd; rw[hd]; have:=zx h; subst this; cases hx; trivial
  ·rename_i hd; simp only[hd] at hs; cases hs
  ·rename_i hd; simp only[hd] at hs; cases hs
  ·cases h
theorem qvP{Γ:List TI}(hΓ:Tys P Γ)(e:Bool){n:Nat}:∀ {fs:List Field} {o:Nat} {T:Ty},eqFs (eqT Γ 1) fs o T=true->(fs.all fun f=>match look Γ f.type with
  | some i=>scalD i.desc
  | none=>false)=true->∀ {x:T.den} {cs cs1:List Value},RdC F w T x cs->cs1.length=o->
   (forIn fs PUnit.unit (fun(f:Field) (_:PUnit)=>do
    if f.name ≠ "_" then
     let v<-part f.type (cs1++cs).toArray f.offset
     Instr.checkKey e (n+1) f.type v
     pure (ForInStep.yield PUnit.unit)
    else pure (ForInStep.yield PUnit.unit))).run P w=.ok PUnit.unit w
 | [],o,T,h,hs,x,cs,cs1,hx,hc=>by simp
 | f::r,o,T,h,hs,x,cs,cs1,hx,hc=>by
  simp only[eqFs,z8,zi1,zt] at h;simp only[z41,z8] at hs;obtain⟨⟨h1,h2⟩,h3⟩:=h;have ho:=zd h2;have hn:f.name ≠ "_" :=by simpa using h1
  rcases h3 with h3 | h3
  ·split at h3
   ·have hp:=qis (cs1:=cs1) (cs2:=[]) hΓ h3 hx;rw[zG,hc,<-ho] at hp;obtain⟨d,k1,k2⟩:=qAg hΓ h3 hs.1 hx;simp only[List.forIn_cons,zl,hn,ne_eq,not_false_eq_true,if_true,zh,hp,run_checkKey k1 k2,zn,List.forIn_nil]
   ·cases h3
  ·split at h3
   ·rename_i a b;rw[z8] at h3;obtain⟨c1,c2,rfl,hx1,hx2⟩:=hx;have hp:=qis (cs1:=cs1) (cs2:=c2) hΓ h3.1 hx1;rw[hc,<-ho] at hp;have e1:=hx1.size;obtain⟨d,k1,k2⟩:=qAg hΓ h3.1 hs.1 hx1;have ih:=qvP hΓ e (n:=n) h3.2 hs.2 (cs1:=cs1++c1) hx2 (by simp; omega)
    rw[zw] at ih;simp only[List.forIn_cons,zl,hn,ne_eq,not_false_eq_true,if_true,zh,hp,run_checkKey k1 k2,zn];exact ih
   ·cases h3
theorem qvQ{Γ:List TI}{kj:TI}(hΓ:Tys P Γ)(hj:kj.ok P)(h:keyOk Γ kj=true){x:kj.T.den}{u:Value}(hx:RdV F w kj.T x u):KeyV P w kj.t u:=by
 unfold keyOk at h;rw[zi1] at h;rcases h with h | h
 ·have hu:=qwX h hx;exact⟨fun e=>run_checkKey hj.und hu e 9999,run_keyThatStays hu⟩
 ·split at h
  ·rename_i fs hd;simp only[z8] at h;obtain⟨⟨⟨h1,h2⟩,h4⟩,h3⟩:=h;obtain⟨cs,hx1,rfl⟩:=hx;have hm:mkV kj.T cs=.agg cs.toArray:=by unfold mkV; rw[h4]; rfl
   rw[hm];simp only[eqT] at h1;split at h1
   ·cases h1
   ·rename_i i hl;obtain⟨hi,hie⟩:=qao hΓ hl;have hdd:i.desc=kj.desc:=by
     have a1:=hi.und;rw[hie,hj.und] at a1;injection a1 with a1; exact a1.symm
    rw[hdd,hd] at h1;simp only[z8] at h1;refine⟨fun e=>?_,?_⟩
    ·have:=qvP hΓ e (n:=9998) (cs1:=[]) h1.2.2 h3 hx1 rfl;have hu:=hj.und;rw[hd] at hu;unfold Instr.checkKey;simp only[zl,zu hu,zh];rw[<-Array.forIn_toList];simp only[zF] at this;rw[this]; rfl
    ·have hb:Instr.sameBits 10000 (.agg cs.toArray) (.agg cs.toArray)=true:=by
      show(cs.toArray.size==cs.toArray.size&&(cs.toArray.toList.zip cs.toArray.toList).all fun(x,y)=>Instr.sameBits 9999 x y)=true
      rw[z8,zq];refine⟨by simp,fun p hp=>?_⟩
      obtain⟨p1,p2⟩:=p;have hz:∀(l:List Value) (p:Value×Value),p∈l.zip l->p.1=p.2/\p.1∈l:=by
       intro l;induction l with
       | nil=>intro p hp; cases hp
       | cons c l ih=>
        intro p hp;rw[List.zip_cons_cons] at hp;rcases zy.1 hp with rfl | hp
        ·exact⟨rfl,by simp⟩
        ·exact⟨(ih p hp).1,zV _ (ih p hp).2⟩
      obtain⟨e1,hm⟩:=hz _ _ hp;have e1:p1=p2:=e1;subst e1;exact qlP h2 hx1 p1 (by simpa using hm) 9999
     simp only[Instr.keyThatStays,hb,if_true,zn]
  ·cases h
theorem qAh{Γ:List TI}{kj:TI}(h:keyOk Γ kj=true):kj.T.key=true:=by
 unfold keyOk at h;rw[zi1] at h;rcases h with h | h
 ·exact qAf h
 ·split at h
  ·simp only[z8] at h; exact h.1.1.2
  ·cases h
theorem qrV{Γ:List TI}{kj:TI}(hΓ:Tys P Γ)(hk:kj.T.key=true)(h:eqT Γ 2 kj.t kj.T=true){x:kj.T.den}{u:Value}(hx:RdV F w kj.T x u):∀(l:List MapEntry) (i:Nat),(∀e∈l,∃y,RdV F w kj.T y e.key)->
  ((Instr.findAsking kj.t u l i).run P w=.ok none w/\∀e∈l,e.key≠u)\/∃j e,(Instr.findAsking kj.t u l i).run P w=.ok (some (i+j,e.val)) w/\l[j]? = some e/\e.key=u
 | [],_,_=>.inl ⟨rfl,by simp⟩
 | e::es,i,hl=>by
  obtain⟨y,hy⟩:=hl e (by simp)
  have hr:(Op.equal kj.t u e.key).run P w=.ok (eqb kj.T x y) w:=qrp hΓ (n:=2) (d:=Op.maxDepth) (by decide) h hx hy
  rw[<-quc hk] at hr;have hi:=qxT hk hx hy;cases hb:(keyO kj.T).eq x y with
  | true=>
   rw[hb] at hr;refine .inr ⟨0,e,?_,rfl,(hi.1 hb).symm⟩
   simp only[Instr.findAsking,zl,hr,zh,if_true,zn,zC1]
  | false=>
   rw[hb] at hr;have hne:e.key≠u:=fun q=>by rw[hi.2 q.symm] at hb; cases hb
   have hs:(Instr.findAsking kj.t u (e::es) i).run P w=(Instr.findAsking kj.t u es (i+1)).run P w:=by
    simp only[Instr.findAsking,zl,hr,zh,z02,if_false]
   rw[hs];rcases qrV hΓ hk h hx es (i+1) (fun e he=>hl e (by simp[he])) with⟨h1,h2⟩ | ⟨j,e',h1,h2,h3⟩
   ·exact .inl ⟨h1,fun x hx=>by
     cases hx with
     | head=>exact hne
     | tail _ hx=>exact h2 x hx⟩
   ·exact .inr ⟨j+1,e',by rw[h1]; congr 3; omega,by simpa using h2,h3⟩
theorem qrW{kt:TypeId}{d:TypeDesc}(hd:P.underlying kt=some d)(u:Value):(Instr.findKey kt u []).run P w=.ok none w:=by
 simp[Instr.findKey,zu hd,Result.andThen,Instr.findNow]
theorem qlQ{Γ:List TI}{kj:TI}(hΓ:Tys P Γ)(hj:kj.ok P)(h:keyOk Γ kj=true){x:kj.T.den}{u:Value}(hx:RdV F w kj.T x u)(l:List MapEntry)(hl:∀e∈l,∃y,RdV F w kj.T y e.key):
  ((Instr.findKey kj.t u l).run P w=.ok none w/\∀e∈l,e.key≠u)\/∃j e,(Instr.findKey kj.t u l).run P w=.ok (some (j,e.val)) w/\l[j]? = some e/\e.key=u:=by
 have h0:=h;unfold keyOk at h;rw[zi1] at h;rcases h with h | h
 ·have hu:=qwX h hx;rcases findNow_spec hu l 0 (fun e he=>by obtain⟨y,hy⟩:=hl e he; exact qwX h hy) with⟨h1,h2⟩ | ⟨j,e,h1,h2,h3⟩
  ·exact .inl ⟨run_findKey hj.und h1,h2⟩
  ·rw[z11] at h1;exact .inr ⟨j,e,run_findKey hj.und h1,h2,h3⟩
 ·split at h
  ·rename_i fs hd;simp only[z8] at h;obtain⟨⟨⟨h1,h2⟩,_⟩,h3⟩:=h;have hu:=hj.und;rw[hd] at hu;cases l with
   | nil=>exact .inl ⟨qrW hu u,by simp⟩
   | cons e es=>
    have hn:Instr.findNow (.struct fs) u (e::es) 0=none:=by simp[Instr.findNow,Instr.sameNow]
    have hs:(Instr.findKey kj.t u (e::es)).run P w=(Instr.findAsking kj.t u (e::es) 0).run P w:=by
     simp only[Instr.findKey,zl,zu hu,zh,hn]
    rw[hs];have:=qrV hΓ h2 h1 hx (e::es) 0 hl;simpa only[z11] using this
  ·cases h
theorem qAi{T:Ty}{z:Value}(h:zOk T z=true):RdV F w T T.dflt z:=by
 unfold zOk at h;split at h
 ·rw[z8,zi,zi] at h;obtain⟨rfl,rfl⟩:=h;exact⟨_,rfl,rfl⟩
 ·rw[zt] at h; subst h;exact⟨_,rfl,rfl⟩
 ·rename_i s;obtain⟨⟨l⟩⟩:=s;simp at h; subst h;exact⟨_,rfl,rfl⟩
 ·exact⟨_,rfl,rfl⟩
 ·cases h
theorem qqi{A:Type}{L:List A}{j:Nat}{e:A}(h:L[j]? = some e):L.Perm (e::L.eraseIdx j):=by
 have hj:=(zp.1 h).1;have h2:=(zp.1 h).2;have hL:L=L.take j++e::L.drop (j+1):=by
  rw[<-h2,<-z51 hj,zS1]
 rw[zK2]
 conv=>lhs; rw[hL]
 exact List.perm_middle
theorem qqK{es:Array MapEntry}{j:Nat}(hj:j<es.size):(es.eraseIdxIfInBounds j).toList=es.toList.eraseIdx j:=by
 unfold Array.eraseIdxIfInBounds;rw[dif_pos hj,Array.toList_eraseIdx]
theorem qrX{es:Array MapEntry}{j:Nat}{e:MapEntry}(f:MapEntry->MapEntry)(h:es[j]? = some e):(es.modify j f).toList.Perm (f e::(es.eraseIdxIfInBounds j).toList):=by
 have hj:=(z01.1 h).1;have h2:(es.modify j f).toList[j]? = some (f e):=by
  rw[zU1,zB2,if_pos rfl,h]; rfl
 refine(qqi h2).trans ?_
 rw[qqK hj];have:(es.modify j f).toList.eraseIdx j=es.toList.eraseIdx j:=by
  apply zR1;intro i;rw[List.getElem?_eraseIdx,List.getElem?_eraseIdx]
  split
  ·rw[zU1,zU1,zB2,if_neg (by omega)]
  ·rw[zU1,zU1,zB2,if_neg (by omega)]
 rw[this]
theorem MapEs.more{l:List (k.den×v.den)}{es es':Array MapEntry}{clock clock':Nat}(h:MapEs F w k v l es clock){e:MapEntry}(hst:MapKept.Stamped es' clock')(hp:es'.toList.Perm (e::es.toList)){x:k.den}{y:v.den}(hx:RdV F w k x e.key)(hy:RdV F w v y e.val)(o:KO k.den):
  MapEs F w k v (mins o l x y) es' clock':=by
 obtain⟨Z,rfl,h2,h3⟩:=h.ent;obtain⟨i,hi⟩:=qAe o x y (Z.map (·.1));refine⟨hst,Z.take i++((x,y),e)::Z.drop i,?_,?_,fun z hz=>?_⟩
 ·rw[hi]; simp
 ·rw[zQ1,z81];refine List.perm_middle.trans ?_
  rw[<-zQ1,zS1];exact(h2.cons e).trans hp.symm
 ·rcases zI.1 hz with hz | hz
  ·exact h3 z (zD2 hz)
  ·rcases zy.1 hz with rfl | hz
   ·exact⟨hx,hy⟩
   ·exact h3 z (zf2 hz)
theorem qud{Γ:List TI}{kj:TI}(hΓ:Tys P Γ)(hj:kj.ok P){l:List (kj.T.den×v.den)}{es:Array MapEntry}{clock:Nat}(hm:MapEs F w kj.T v l es clock)(hk:keyOk Γ kj=true){x:kj.T.den}{u:Value}(hx:RdV F w kj.T x u):
  ((Instr.findKey kj.t u es.toList).run P w=.ok none w/\(∀e∈es.toList,e.key≠u)/\mget (keyO kj.T) l x=none/\mdel (keyO kj.T) l x=l)∨
  ∃(j:Nat) (e:MapEntry) (y:v.den),(Instr.findKey kj.t u es.toList).run P w=.ok (some (j,e.val)) w/\es[j]? = some e/\e.key=u/\mget (keyO kj.T) l x=some y/\RdV F w v y e.val/\MapEs F w kj.T v (mdel (keyO kj.T) l x) (es.eraseIdxIfInBounds j) clock:=by
 obtain⟨Z,rfl,z2,z3⟩:=hm.ent;have hkk:=qAh hk;have hks:∀e∈es.toList,∃y,RdV F w kj.T y e.key:=by
  intro e he;obtain⟨z,hz,rfl⟩:=zW.1 (z2.mem_iff.2 he);exact⟨_,(z3 z hz).1⟩
 rcases qlQ hΓ hj hk hx es.toList hks with⟨h1,h2⟩ | ⟨j,e,h1,h2,h3⟩
 ·refine .inl ⟨h1,h2,qAd fun q hq=>?_⟩
  obtain⟨z,hz,rfl⟩:=zW.1 hq;have hne:=h2 z.2 (z2.mem_iff.1 (zz1 hz));cases hb:(keyO kj.T).eq x z.1.1 with
  | false=>rfl
  | true=>exact absurd ((qxT hkk hx (z3 z hz).1).1 hb).symm hne
 ·have hj:=(zp.1 h2).1;obtain⟨z,hz,hze⟩:=zW.1 (z2.mem_iff.2 (zK h2));obtain⟨i,hi⟩:=zq1 hz;subst hze;have hkn:(Z.map (·.2.key)).Nodup:=by
   have:=(z2.map (·.key)).nodup_iff.2 hm.st.2.2;rwa[zR2] at this
  have hi2:(Z.map (·.1))[i]? = some z.1:=by rw[zH,hi]; rfl
  obtain⟨a1,a2⟩:=qAc (o:=keyO kj.T) hi2 ((qxT hkk hx (z3 z hz).1).2 h3.symm) fun i' q hi' hq=>by
   rw[zH,zg1] at hi';obtain⟨z',hz',rfl⟩:=hi';have h4:=(qxT hkk hx (z3 z' (zK hz')).1).1 hq;have g1:(Z.map (·.2.key))[i']? = some u:=by rw[zH,hz',h4]; rfl
   have g2:(Z.map (·.2.key))[i]? = some u:=by rw[zH,hi,<-h3]; rfl
   exact(List.getElem?_inj (by simpa using (zp.1 hz').1) hkn).1 (g1.trans g2.symm)
  refine .inr ⟨j,z.2,z.1.2,h1,by rw[<-zU1]; exact h2,h3,a1,(z3 z hz).2,stamped_erase hm.st j,Z.eraseIdx i,?_,?_,fun z' hz'=>z3 z' (List.mem_of_mem_eraseIdx hz')⟩
  ·rw[a2];rw[zK2,zK2,zQ1,List.map_take,List.map_drop]
  ·rw[qqK (by simpa using hj)]
   have p1:=(qqi hi).map (·.2);rw[z81] at p1;have p2:=qqi h2;exact((p1.symm.trans z2).trans p2).cons_inv
end
section
variable {P:Program} {w0:World} {M:Mod} {N:Nat} {F0:Nat->Prop} {ops:Array Oper} {st:St} {Γ:List TI} {rty:TypeId}
variable {F:Nat->Prop} {U:Env} {a:Act} {w:World}
def mapTy(Γ:List TI)(t:TypeId):Option (TI×TI):=
 match look Γ t with
 | some i=>match i.desc with
  | .map kt et=>match look Γ kt,look Γ et with
   | some kj,some ej=>bif keyOk Γ kj&&zOk ej.T ej.zero then some (kj,ej) else none
   | _,_=>none
  | _=>none
 | none=>none
theorem que(hΓ:Tys P Γ){t:TypeId}{kj ej:TI}(h:mapTy Γ t=some (kj,ej)):P.underlying t=some (.map kj.t ej.t)/\kj.ok P/\keyOk Γ kj=true/\zOk ej.T ej.zero=true/\ej.ok P:=by
 unfold mapTy at h;split at h
 ·rename_i i hl;obtain⟨hi,rfl⟩:=qao hΓ hl;split at h
  ·rename_i kt et hd;split at h
   ·rename_i kj' ej' h1 h2;obtain⟨hk,rfl⟩:=qao hΓ h1;obtain⟨he,rfl⟩:=qao hΓ h2;cases hc:(keyOk Γ kj'&&zOk ej'.T ej'.zero) with
    | false=>rw[hc] at h; cases h
    | true=>
     rw[hc] at h; injection h with h; injection h with h h'; subst h h'
     rw[z8] at hc;exact⟨by rw[hi.und,hd],hk,hc.1,hc.2,he⟩
   ·cases h
  ·cases h
 ·cases h
/-! ### A new map -/
def qrY(Γ:List TI)(st:St)(N d:Nat)(t:TypeId):Option MR:=
 match mapTy Γ t with
 | some (kj,ej)=>bif Nat.blt d N&&!st.d (fresh st d 8 0) then some ⟨true,[.d (fresh st d 8 0)],[.d (fresh st d 8 0),.a (fresh st d 8 0) (some (.map true (bif keyTy kj.desc kj.T then t else t+1000000) kj.T ej.T [])),.r d (.own (fresh st d 8 0))]⟩ else none
 | none=>none
theorem qvR{d:Nat}{t:TypeId}{r:MR}(h:qrY Γ st N d t=some r):MOk P w0 M N F0 ops st (some d) (.makeMap t none) rty r:=by
 unfold qrY at h;split at h
 ·rename_i kj ej hm;cases hc:(Nat.blt d N&&!st.d (fresh st d 8 0)) with
  | false=>rw[hc] at h; cases h
  | true=>
   rw[hc] at h; cases h
   rw[z8,zS,zt] at hc;intro pos af;refine RT.stepW rfl fun st' hag F U a w hr=>?_
   have hd':st'.d (fresh st d 8 0)=false:=by rw[<-hc.2]; exact(hag (.d _) (by simp)).symm
   have hob:ObOk F (w.alloc (.map #[] 0)) (.map true (bif keyTy kj.desc kj.T then t else t+1000000) kj.T ej.T []) (.map (some w.heap.size)):=
    .inr ⟨w.heap.size,#[],0,rfl,(heap_alloc w _).1,stamped_empty 0,[],rfl,⟨.nil,fun _=>⟨rfl,rfl,fun i e h=>by simp at h⟩⟩,fun z hz=>by cases hz⟩
   refine⟨_,_,F,w.alloc (.map #[] 0),.inl ?_,hr.newA hd' hc.1 (qd9 w _) hob (fun g hg=>by cases hg; exact zP _),fun _ h=>h,fun _ h=>.inl h⟩
   have hrun:(Instr.makeMap t none).run P w=.ok (.map (some w.heap.size)) (w.alloc (.map #[] 0)):=rfl;simp only[execOp,zP1,hrun,zl,zn,zh]
 ·cases h
/-! ### An entry is looked up -/
def optS(T:Ty)(ok:Bool)(z:T.den)(x:Option T.den):SV:=bif ok then .tup [.v T (x.getD z),.b x.isSome] else .v T (x.getD z)
def quf(Γ:List TI)(st:St)(t:TypeId)(x ix:Operand)(ok:Bool):Option VR:=
 match mapTy Γ t,st.ev x with
 | some (kj,ej),.own b=>match st.a b,(st.ev ix).dat kj.T with
  | some (.map nn ty k v l),some y=>if h:k=kj.T/\v=ej.T then some ⟨true,qaa x++(qaa ix++[bif nn&&(bornT ty&&!ok) then .g b else .a b]),optS ej.T ok ej.T.dflt (mget (keyO kj.T) (h.1 ▸ h.2 ▸ l:List (kj.T.den×ej.T.den)) y)⟩ else none
  | _,_=>none
 | _,_=>none
theorem qjX{t kt et:TypeId}{z:Value}{i:TypeInfo}(ht:P.underlying t=some (.map kt et))(hi:P.info? et=some i)(hz:i.zero=some z){m:Value}{es:Array MapEntry}{u:Value}(hu:KeyV P w kt u)
  (hm:(m=.map none/\es=#[])\/∃r clock,m=.map (some r)/\w.heap[r]? = some (.map es clock)) {o:Option (Nat×Value)} (hf:(Instr.findKey kt u es.toList).run P w=.ok o w) (ok:Bool):
  (Instr.lookup t m u ok).run P w=.ok (bif ok then .tuple #[(o.map (·.2)).getD z,.bool o.isSome] else(o.map (·.2)).getD z) w:=by
 have hzv:(zeroValue et).run P w=.ok z w:=by simp[zeroValue,typeInfo,hi,hz,Result.andThen]
 rcases hm with⟨rfl,rfl⟩ | ⟨r,clock,rfl,hb⟩
 ·have hf':(Instr.findKey kt u []).run P w=.ok o w:=hf;cases o with
  | none=>cases ok <;> simp[Instr.lookup,zu ht,hu.chk,hf',hzv,Result.andThen]
  | some p=>cases ok <;> simp[Instr.lookup,zu ht,hu.chk,hf',hzv,Result.andThen]
 ·cases o with
  | none=>cases ok <;> simp[Instr.lookup,zu ht,zN2 hb,hu.chk,hf,hzv,Result.andThen]
  | some p=>cases ok <;> simp[Instr.lookup,zu ht,zN2 hb,hu.chk,hf,hzv,Result.andThen]
theorem qug{T:Ty}{ok:Bool}{z:T.den}{x:Option T.den}{zv:Value}{o:Option (Nat×Value)}(hz:RdV F w T z zv)(hx:(x=none/\o=none)\/∃y j u,x=some y/\o=some (j,u)/\RdV F w T y u):
  Den P F w U (optS T ok z x) (bif ok then .tuple #[(o.map (·.2)).getD zv,.bool o.isSome] else(o.map (·.2)).getD zv):=by
 have h1:RdV F w T (x.getD z) ((o.map (·.2)).getD zv)/\x.isSome=o.isSome:=by
  rcases hx with⟨rfl,rfl⟩ | ⟨y,j,u,rfl,rfl,h⟩
  ·exact⟨hz,rfl⟩
  ·exact⟨h,rfl⟩
 cases ok with
 | false=>exact .v h1.1
 | true=>
  refine .tup (vs:=[_,_]) rfl fun i s u hs hu=>?_
  match i with
  | 0=>simp at hs hu; subst hs hu; exact .v h1.1
  | 1=>simp at hs hu; subst hs hu; rw[h1.2]; exact .v ⟨_,rfl,rfl⟩
  | i+2=>simp at hs
theorem qwY(hΓ:Tys P Γ){t:TypeId}{x ix:Operand}{ok:Bool}{r:VR}(h:quf Γ st t x ix ok=some r):VOk P w0 M N st (.lookup t x ix ok) rty r:=by
 unfold quf at h;split at h
 ·rename_i kj ej b hm hx;obtain⟨m1,m2,m3,m4,m5⟩:=que hΓ hm;split at h
  ·rename_i nn ty k v l y hA hy;split at h
   ·rename_i hkv;obtain⟨rfl,rfl⟩:=hkv;cases h
    intro st' hag F U a w hr dst pos af gd;have hxd:=hr.evx hag (fun _ h=>mem_l h) (x:=x)
    have hyd:=qda hy (hr.evx hag (fun _ h=>mem_r (mem_l h)) (x:=ix))
    rw[hx] at hxd;generalize he:a.eval x=u at hxd;cases hxd with
    | own hρ=>
     have hl:∃l':List (kj.T.den×ej.T.den),st'.a b=some (.map nn ty kj.T ej.T l')/\optS ej.T ok ej.T.dflt (mget (keyO kj.T) l y)=optS ej.T ok ej.T.dflt (mget (keyO kj.T) l' y):=by
      cases hc:(nn&&(bornT ty&&!ok)) with
      | false=>
       have hag':=hag (.a b) (by rw[hc]; simp)
       exact⟨l,by rw[<-(hag':st.a b=st'.a b)]; exact hA,rfl⟩
      | true=>
       have hag':=hag (.g b) (by rw[hc]; simp)
       simp only[z8,zt] at hc;obtain⟨rfl,_,rfl⟩:=hc;rcases(show SameG (st.a b) (st'.a b) from hag') with e | ⟨ty',k',v',m,m',g1,g2,g3,g4⟩
       ·exact⟨l,by rw[<-e]; exact hA,rfl⟩
       ·rw[hA] at g1;injection g1 with g1
        injection g1 with _ e1 e2 e3 e4
        subst e1 e2 e3;have e4:=eq_of_heq e4;subst e4;exact⟨m',g2,by show SV.v ej.T _=SV.v ej.T _; rw[g4 y]⟩
     obtain⟨l',hA',hopt⟩:=hl;show ∃u',_/\Den P F w U (optS ej.T ok ej.T.dflt (mget (keyO kj.T) l y)) u';rw[hopt];obtain⟨u',q1,q2⟩:=hr.mem.arr b _ hA';rw[hρ] at q1; cases q1
     obtain⟨inf,i1,i2,i3,i4⟩:=m5.info;have hu:=qvQ hΓ m2 m3 hyd;rcases q2 with⟨_,rfl,rfl⟩ | ⟨r,es,clock,rfl,h2,h3⟩
     ·have hrun:=qjX (w:=w) (o:=none) m1 i1 i4 hu (.inl ⟨rfl,rfl⟩) (qrW m2.und _) ok;exact⟨_,by simp only[execOp,he,hrun,zl,zn,zh],qug (qAi m4) (.inl ⟨rfl,rfl⟩)⟩
     ·have hf:=qud hΓ m2 h3.es m3 hyd;rcases hf with⟨f1,_,f2,_⟩ | ⟨j,e,p,f1,_,_,f5,f6,_⟩
      ·have hrun:=qjX (w:=w) m1 i1 i4 hu (.inr ⟨r,clock,rfl,h2⟩) f1 ok;exact⟨_,by simp only[execOp,he,hrun,zl,zn,zh],qug (qAi m4) (.inl ⟨f2,rfl⟩)⟩
      ·have hrun:=qjX (w:=w) m1 i1 i4 hu (.inr ⟨r,clock,rfl,h2⟩) f1 ok;exact⟨_,by simp only[execOp,he,hrun,zl,zn,zh],qug (qAi m4) (.inr ⟨p,j,e.val,f5,rfl,f6⟩)⟩
   ·cases h
  ·cases h
 ·cases h
/-! ### How many entries there are -/
def qAj(Γ:List TI)(st:St)(t:TypeId)(x:Operand):Option VR:=match t with
 | 0=>none
 | _+1=>none
theorem qAk(hΓ:Tys P Γ){t:TypeId}{x:Operand}{r:VR}(h:qAj Γ st t x=some r):VOk P w0 M N st (.call { callee:=.builtin .len,args:=#[x],argTypes:=#[t] }) rty r:=by
 unfold qAj at h;split at h <;> cases h
/-! ### An entry is written; one is deleted -/
theorem Rel'.mapSet{b r clock clock':Nat}{ty:TypeId}{k v:Ty}{l l':List (k.den×v.den)}{es es':Array MapEntry}{nn:Bool}(h:Rel' P w0 M N F U st a w)(hA:st.a b=some (.map nn ty k v l))(hρ:U b=some (.map (some r)))
  (hb:w.heap[r]? = some (.map es clock)) (hes:MapEb ty F w k v l' es' clock'):Rel' P w0 M N F U (st.put (.a b (some (.map nn ty k v l')))) a { w with heap:=w.heap.setIfInBounds r (.map es' clock') }:=by
 have hp0:st.present b:=.inr (by rw[hA]; simp)
 have hd0:=h.dropA b;have hlt:r<w.heap.size:=(z01.1 hb).1;have hv0:st.v b=none:=by
  cases hx:st.v b with
  | none=>rfl
  | some x=>
   exfalso;obtain⟨g,arr,h1,_⟩:=h.mem.var b x.1 x.2 hx;rw[hρ] at h1; injection h1 with h1; cases h1
 have hfr:Fr w (fun g=>g=r) { w with heap:=w.heap.setIfInBounds r (.map es' clock') }:=
  ⟨rfl,rfl,rfl,by simp,fun g _ hg=>(heap_set hb).2 g hg⟩
 have hpr:∀b',(st.put (.a b none)).present b'->b'≠b/\st.present b':=by
  intro b' hp;by_cases e:b'=b
  ·subst e;exfalso;rcases hp with hp | hp
   ·exact hp hv0
   ·refine hp ?_
    show(bif Nat.beq b' b' then none else st.a b')=none;simp
  ·refine⟨e,?_⟩
   rcases hp with hp | hp
   ·exact .inl hp
   ·refine .inr ?_
    have hp':(bif Nat.beq b' b then none else st.a b')≠none:=hp;rw[bq e] at hp'; exact hp'
 have hdis:∀b' v g,(st.put (.a b none)).present b'->U b'=some v->blkOf v=some g->¬g=r:=by
  intro b' v g hp hv hg hgr;subst hgr;obtain⟨hne,hp'⟩:=hpr b' hp;exact hne (h.mem.sep b' b v _ g hp' hp0 hv hρ hg rfl)
 have hnF:∀g,F g->¬g=r:=fun g hF hg=>by subst hg; exact h.mem.own b _ g hp0 hρ rfl hF
 have h1:=hd0.move (F':=F) hfr hdis hnF (fun _ h=>h) (fun _ h=>.inl h) (fun g hg=>zw1 (h.mem.fb g hg) hfr.size) (fun g hg hlt'=>(h.lo b _ g hp0 hρ (by subst hg; rfl)).resolve_right (by omega))
 have hob:ObOk F { w with heap:=w.heap.setIfInBounds r (.map es' clock') } (.map nn ty k v l') (.map (some r)):=by
  obtain⟨Z,z1,z2,z3⟩:=hes.ent;refine .inr ⟨r,es',clock',rfl,(heap_set hb).1,hes.st,Z,z1,z2,fun z hz=>?_⟩
  have hc:∀g,F g->(w.heap.setIfInBounds r (.map es' clock'))[g]? = w.heap[g]?:=fun g hF=>(heap_set hb).2 _ (hnF _ hF)
  obtain⟨⟨c1,p1,p2⟩,⟨c2,s1,s2⟩⟩:=z3 z hz;exact⟨⟨c1,p1.mono (fun _ h=>h) hc,p2⟩,⟨c2,s1.mono (fun _ h=>h) hc,s2⟩⟩
 have h2:=h1.addA (b:=b) (A:=.map nn ty k v l') hρ hv0 hob (fun g hg=>⟨fun b' v hne hp hv' hbk=>by
   obtain⟨_,hp'⟩:=hpr b' hp;exact hne (h.mem.sep b' b v _ g hp' hp0 hv' hρ hbk hg),fun hF=>h.mem.own b _ g hp0 hρ hg hF,h.lo b _ g hp0 hρ hg⟩)
 have e:(st.put (.a b none)).put (.a b (some (.map nn ty k v l')))=st.put (.a b (some (.map nn ty k v l'))):=by
  show({ st with a:=_ }:St)={ st with a:=_ }
  congr 1;funext x;show(bif Nat.beq x b then _ else bif Nat.beq x b then none else st.a x)=bif Nat.beq x b then _ else st.a x;cases Nat.beq x b <;> rfl
 rwa[e] at h2
def qmV(Γ:List TI)(st:St)(t:TypeId)(x ix y:Operand):Option MR:=
 match mapTy Γ t,st.ev x with
 | some (kj,ej),.own b=>match st.a b,(st.ev ix).dat kj.T,(st.ev y).dat ej.T with
  | some (.map true ty k v l),some key,some val=>if h:k=kj.T/\v=ej.T then bif bornT ty then none else some ⟨true,qaa x++(qaa ix++(qaa y++[.a b])),[.a b (some (.map true ty kj.T ej.T (mput (keyO kj.T) (h.1 ▸ h.2 ▸ l:List (kj.T.den×ej.T.den)) key val)))]⟩ else none
  | _,_,_=>none
 | _,_=>none
theorem qkA{t kt et:TypeId}(ht:P.underlying t=some (.map kt et)){r:Nat}{es:Array MapEntry}{clock:Nat}(hb:w.heap[r]? = some (.map es clock)){u z:Value}(hu:KeyV P w kt u):
  ((Instr.findKey kt u es.toList).run P w=.ok none w->(Instr.mapUpdate t (.map (some r)) u z).run P w=.ok () { w with heap:=w.heap.setIfInBounds r (.map (es.push { key:=u,val:=z,born:=clock }) (clock+1)) })∧
  ∀j e,(Instr.findKey kt u es.toList).run P w=.ok (some (j,e.val)) w->es[j]? = some e->e.key=u->(Instr.mapUpdate t (.map (some r)) u z).run P w=.ok () { w with heap:=w.heap.setIfInBounds r (.map (es.modify j fun e=>{ e with key:=u,val:=z }) clock) }:=by
 constructor
 ·intro h1;simp[Instr.mapUpdate,zu ht,zN2 hb,hu.chk,h1,run_setObj_map _ hb,Result.andThen]
 ·intro j e h1 hj h3;simp[Instr.mapUpdate,zu ht,zN2 hb,hu.chk,h1,hj,h3,hu.stay,run_setObj_map _ hb,Result.andThen]
theorem qwZ(hΓ:Tys P Γ){t:TypeId}{x ix y:Operand}{r:MR}(h:qmV Γ st t x ix y=some r):MOk P w0 M N F0 ops st none (.mapUpdate t x ix y) rty r:=by
 unfold qmV at h;split at h
 ·rename_i kj ej b hm hx;obtain⟨m1,m2,m3,m4,m5⟩:=que hΓ hm;split at h
  ·rename_i ty k v l key val hA hk hv;split at h
   ·rename_i hkv;obtain⟨rfl,rfl⟩:=hkv;cases hbt:bornT ty with
    | true=>rw[hbt] at h; cases h
    | false=>
    rw[hbt] at h;cases h
    intro pos af;refine RT.stepW rfl fun st' hag F U a w hr=>?_
    have hxd:=hr.evx hag (fun _ h=>mem_l h) (x:=x)
    have hkd:=qda hk (hr.evx hag (fun _ h=>mem_r (mem_l h)) (x:=ix))
    have hvd:=qda hv (hr.evx hag (fun _ h=>mem_r (mem_r (mem_l h))) (x:=y))
    have hA':st'.a b=some (.map true ty kj.T ej.T l):=by rw[<-(hag (.a b) (by simp):st.a b=st'.a b)]; exact hA
    rw[hx] at hxd;generalize he:a.eval x=u at hxd;cases hxd with
    | own hρ=>
     obtain⟨u',q1,q2⟩:=hr.mem.arr b _ hA';rw[hρ] at q1; cases q1
     rcases q2 with⟨q2,_⟩ | ⟨r,es,clock,rfl,h2,h3⟩
     ·cases q2
     have hu:=qvQ hΓ m2 m3 hkd;obtain⟨r1,r2⟩:=qkA (P:=P) (w:=w) (z:=a.eval y) m1 h2 hu;have hf:=qud hΓ m2 h3.es m3 hkd;rcases hf with⟨f1,f0,_,f2⟩ | ⟨j,e,p,f1,f2,f3,_,_,f6⟩
     ·have hm0:=h3.es;rw[<-f2] at hm0;have hR:=hr.mapSet hA' hρ h2 (MapEs.eb hbt (hm0.more (e:={ key:=a.eval ix,val:=a.eval y,born:=clock }) (stamped_push h3.st f0) (by rw[Array.toList_push]; exact zX2 _ _) hkd hvd (keyO kj.T)))
      refine⟨undef,U,F,_,.inr ⟨?_,rfl⟩,hR,fun _ h=>h,fun _ h=>.inl h⟩
      simp only[execOp,he,r1 f1,zl,zn,zh]
     ·have hR:=hr.mapSet hA' hρ h2 (MapEs.eb hbt (f6.more (e:={ e with key:=a.eval ix,val:=a.eval y }) (stamped_modify h3.st j (fun e=>{ e with key:=a.eval ix,val:=a.eval y }) (fun _ _=>rfl) (fun e' _ he'=>by rw[f2] at he'; injection he' with he'; subst he'; exact f3.symm)) (qrX _ f2) hkd hvd (keyO kj.T)))
      refine⟨undef,U,F,_,.inr ⟨?_,rfl⟩,hR,fun _ h=>h,fun _ h=>.inl h⟩
      simp only[execOp,he,r2 j e f1 f2 f3,zl,zn,zh]
   ·cases h
  ·cases h
 ·cases h
theorem qw0(hΓ:Tys P Γ){t:TypeId}{x ix y:Operand}{r:MR}(h:qmV Γ st t x ix y=some r):MOk P w0 M N F0 ops st none (.insert t x ix y) rty r:=by
 unfold qmV at h;split at h
 ·rename_i kj ej b hm hx;obtain⟨m1,m2,m3,m4,m5⟩:=que hΓ hm;split at h
  ·rename_i ty k v l key val hA hk hv;split at h
   ·rename_i hkv;obtain⟨rfl,rfl⟩:=hkv;cases hbt:bornT ty with
    | true=>rw[hbt] at h; cases h
    | false=>
    rw[hbt] at h;cases h
    intro pos af;refine RT.stepW rfl fun st' hag F U a w hr=>?_
    have hxd:=hr.evx hag (fun _ h=>mem_l h) (x:=x)
    have hkd:=qda hk (hr.evx hag (fun _ h=>mem_r (mem_l h)) (x:=ix))
    have hvd:=qda hv (hr.evx hag (fun _ h=>mem_r (mem_r (mem_l h))) (x:=y))
    have hA':st'.a b=some (.map true ty kj.T ej.T l):=by rw[<-(hag (.a b) (by simp):st.a b=st'.a b)]; exact hA
    rw[hx] at hxd;generalize he:a.eval x=u at hxd;cases hxd with
    | own hρ=>
     obtain⟨u',q1,q2⟩:=hr.mem.arr b _ hA';rw[hρ] at q1; cases q1
     rcases q2 with⟨q2,_⟩ | ⟨r,es,clock,rfl,h2,h3⟩
     ·cases q2
     have hu:=qvQ hΓ m2 m3 hkd;obtain⟨r1,r2⟩:=qkA (P:=P) (w:=w) (z:=a.eval y) m1 h2 hu;have hf:=qud hΓ m2 h3.es m3 hkd;rcases hf with⟨f1,f0,_,f2⟩ | ⟨j,e,p,f1,f2,f3,_,_,f6⟩
     ·have hm0:=h3.es;rw[<-f2] at hm0;have hR:=hr.mapSet hA' hρ h2 (MapEs.eb hbt (hm0.more (e:={ key:=a.eval ix,val:=a.eval y,born:=clock }) (stamped_push h3.st f0) (by rw[Array.toList_push]; exact zX2 _ _) hkd hvd (keyO kj.T)))
      refine⟨undef,U,F,_,.inr ⟨?_,rfl⟩,hR,fun _ h=>h,fun _ h=>.inl h⟩
      simp only[execOp,he,r1 f1,zl,zn,zh]
     ·have hR:=hr.mapSet hA' hρ h2 (MapEs.eb hbt (f6.more (e:={ e with key:=a.eval ix,val:=a.eval y }) (stamped_modify h3.st j (fun e=>{ e with key:=a.eval ix,val:=a.eval y }) (fun _ _=>rfl) (fun e' _ he'=>by rw[f2] at he'; injection he' with he'; subst he'; exact f3.symm)) (qrX _ f2) hkd hvd (keyO kj.T)))
      refine⟨undef,U,F,_,.inr ⟨?_,rfl⟩,hR,fun _ h=>h,fun _ h=>.inl h⟩
      simp only[execOp,he,r2 j e f1 f2 f3,zl,zn,zh]
   ·cases h
  ·cases h
 ·cases h
def quh(Γ:List TI)(st:St)(t:TypeId)(x ix:Operand):Option MR:=match t with
 | 0=>none
 | _+1=>none
theorem qw1(hΓ:Tys P Γ){t t2:TypeId}{dst:Option Nat}{x ix:Operand}{r:MR}(h:quh Γ st t x ix=some r)(hdst:∀d,dst=some d->False):MOk P w0 M N F0 ops st dst (.call { callee:=.builtin .delete,args:=#[x,ix],argTypes:=#[t,t2] }) rty r:=by
 unfold quh at h;split at h <;> cases h
/-! ### The entry of a key; a value is put into it -/
def qui(Γ:List TI)(st:St)(N d:Nat)(t:TypeId)(x ix:Operand):Option MR:=match d with
 | 0=>none
 | _+1=>none
theorem qw2(hΓ:Tys P Γ){d:Nat}{t:TypeId}{x ix:Operand}{r:MR}(h:qui Γ st N d t x ix=some r):MOk P w0 M N F0 ops st (some d) (.mapEntry t x ix) rty r:=by
 unfold qui at h;split at h <;> cases h
def qw3(st:St)(x s y:Operand):Option MR:=match x with
 | .tmp _=>none
 | _=>none
theorem qy3{t:TypeId}{x s y:Operand}{r:MR}(h:qw3 st x s y=some r)(hg:r.g=true):MOk P w0 M N F0 ops st none (.entryStore t x s y) rty r:=by
 unfold qw3 at h;split at h <;> cases h
def qAl(Γ:List TI)(st:St):Op->Option VR
 | .lookup t x ix ok=>quf Γ st t x ix ok
 | .call ⟨.builtin .len,⟨[x]⟩,⟨[t]⟩⟩=>qAj Γ st t x
 | _=>none
theorem qAm(hΓ:Tys P Γ){op:Op}{r:VR}(h:qAl Γ st op=some r):VOk P w0 M N st op rty r:=by
 unfold qAl at h;split at h
 ·exact qwY hΓ h
 ·exact qAk hΓ h
 ·cases h
def qAn(Γ:List TI)(st:St)(N:Nat)(dst:Option Nat):Op->Option MR
 | .makeMap t none=>match dst with
  | some d=>qrY Γ st N d t
  | none=>none
 | .mapUpdate t x ix y=>match dst with
  | none=>qmV Γ st t x ix y
  | some _=>none
 | .insert t x ix y=>match dst with
  | none=>qmV Γ st t x ix y
  | some _=>none
 | .call ⟨.builtin .delete,⟨[x,ix]⟩,⟨[t,t2]⟩⟩=>match dst with
  | none=>quh Γ st t x ix
  | some _=>none
 | .mapEntry t x ix=>match dst with
  | some d=>qui Γ st N d t x ix
  | none=>none
 | .entryStore _ x s y=>match dst with
  | none=>qw3 st x s y
  | some _=>none
 | _=>none
theorem qAo(hΓ:Tys P Γ){dst:Option Nat}{op:Op}{r:MR}(h:qAn Γ st N dst op=some r)(hg:r.g=true):MOk P w0 M N F0 ops st dst op rty r:=by
 unfold qAn at h;split at h
 all_goals first | (cases h; done) | (split at h <;> first | (cases h; done) | skip)
 ·exact qvR h
 ·exact qwZ hΓ h
 ·exact qw0 hΓ h
 ·exact qw1 hΓ h (fun d e=>by cases e)
 ·exact qw2 hΓ h
 ·exact qy3 h hg
end
section
variable {P:Program} {w0:World} {M:Mod} {N:Nat} {F0:Nat->Prop} {ops:Array Oper} {st:St} {Γ:List TI} {rty:TypeId}
variable {F:Nat->Prop} {U:Env} {a:Act} {w:World}
/-! ### A map that is only read: an entry, how many there are -/
def qrZ(Γ:List TI)(st:St)(t:TypeId)(x ix:Operand)(ok:Bool):Option VR:=match t with
 | 0=>none
 | _+1=>none
theorem qvS(hΓ:Tys P Γ){t:TypeId}{x ix:Operand}{ok:Bool}{r:VR}(h:qrZ Γ st t x ix ok=some r):VOk P w0 M N st (.lookup t x ix ok) rty r:=by
 unfold qrZ at h;split at h <;> cases h
/-! ### A map of functions that compute -/
def qxU:Value->Bool
 | .nilFunc=>true
 | _=>false
def fmTy(Γ:List TI)(t:TypeId):Option (TI×TI):=
 match look Γ t with
 | some i=>match i.desc with
  | .map kt et=>match look Γ kt,look Γ et with
   | some kj,some ej=>bif keyOk Γ kj&&decide (kj.T=.str)&&qxU ej.zero then some (kj,ej) else none
   | _,_=>none
  | _=>none
 | none=>none
def fmHas(ks:List (List UInt8))(y:List UInt8):Bool:=ks.any (· == y)
def fmG{ps:List Ty}{r:Ty}(ks:List (List UInt8))(g:HL (.str::ps)->Option r.den)(y:List UInt8):HL ps->Option r.den:=fun x=>bif fmHas ks y then g (y,x) else none
def evFm(Γ:List TI)(st:St)(t:TypeId)(x ix:Operand):Bool->Option VR
 | true=>match st.ev x,(st.ev ix).dat .str with
  | .fmap ps r ks g,some y=>match fmTy Γ t with
   | some _=>some ⟨true,qaa x++qaa ix,.tup [.fn ps r (fmG ks g y),.b (fmHas ks y)]⟩
   | none=>none
  | _,_=>none
 | false=>none
theorem qEp(hΓ:Tys P Γ){t:TypeId}{x ix:Operand}{ok:Bool}{r:VR}(h:evFm Γ st t x ix ok=some r):VOk P w0 M N st (.lookup t x ix ok) rty r:=by
 cases ok with
 | false=>cases h
 | true=>
  simp only[evFm] at h;split at h
  ·rename_i ps rt ks g y hx hy;split at h
   ·rename_i jj hm;obtain⟨kj,ej⟩:=jj;cases h
    have m:P.underlying t=some (.map kj.t ej.t)/\kj.ok P/\keyOk Γ kj=true/\kj.T=.str/\qxU ej.zero=true/\ej.ok P:=by
     unfold fmTy at hm;split at hm
     ·rename_i i hl;obtain⟨hi,rfl⟩:=qao hΓ hl;split at hm
      ·rename_i kt et hd;split at hm
       ·rename_i kj' ej' h1 h2;obtain⟨hk',rfl⟩:=qao hΓ h1;obtain⟨he,rfl⟩:=qao hΓ h2;cases hcc:(keyOk Γ kj'&&decide (kj'.T=.str)&&qxU ej'.zero) with
        | false=>rw[hcc] at hm; cases hm
        | true=>
         rw[hcc] at hm; injection hm with hm; injection hm with e1 e2; subst e1 e2
         simp only[z8,zi] at hcc;exact⟨by rw[hi.und,hd],hk',hcc.1.1,hcc.1.2,hcc.2,he⟩
       ·cases hm
      ·cases hm
     ·cases hm
    obtain⟨m1,m2,m3,m4,m5,m6⟩:=m;intro st' hag F U a w hr dst pos af gd;have hxd:=hr.evx hag (fun _ h=>mem_l h) (x:=x)
    have hyd:=qda hy (hr.evx hag (fun _ h=>mem_r h) (x:=ix))
    rw[hx] at hxd;generalize he:a.eval x=u at hxd;generalize hu0:a.eval ix=uk at hyd;obtain⟨inf,i1,i2,i3,i4⟩:=m6.info;have hz:ej.zero=.nilFunc:=by
     unfold qxU at m5;split at m5
     ·assumption
     ·cases m5
    have fin:∀(z:Value) (bb:Bool),FnVal P F w ps rt (fmG ks g y) z->bb=fmHas ks y->Den P F w U (.tup [.fn ps rt (fmG ks g y),.b (fmHas ks y)]) (.tuple #[z,.bool bb]):=by
     intro z bb h1 e2;subst e2;refine .tup (vs:=[_,_]) rfl fun i s u hs hu=>?_
     match i with
     | 0=>simp at hs hu; subst hs hu; exact .fn h1
     | 1=>simp at hs hu; subst hs hu; exact .v ⟨_,rfl,rfl⟩
     | i+2=>simp at hs
    cases hxd with
    | @fmap _ _ _ _ mm es clock vs h1 h2 h3 h4 h5 h6=>
     obtain⟨kt,kd,ks',kb,kz,kτ,ke⟩:=kj;simp only at m4; subst m4;have hkey:uk=.string ⟨⟨y⟩⟩:=by obtain⟨cs,q1,q2⟩:=hyd; cases q1; exact q2
     have hmem:∀e∈es.toList,∃(i:Nat) (k:List UInt8),ks[i]? = some k/\vs[i]? = some e.val/\e.key=.string ⟨⟨k⟩⟩:=by
      intro e hm;have hm2:=h5.mem_iff.1 (zW.2 ⟨e,hm,rfl⟩:(e.key,e.val)∈es.toList.map (fun e=>(e.key,e.val)))
      obtain⟨i,hi⟩:=zq1 hm2;rw[List.getElem?_zip_eq_some,zH] at hi
      obtain⟨k,hk,hk2⟩:=zg1.1 hi.1;exact⟨i,k,hk,hi.2,hk2.symm⟩
     have hks:∀e∈es.toList,∃z,RdV F w .str z e.key:=by
      intro e hm;obtain⟨_,k,_,_,hk⟩:=hmem e hm;exact⟨k,[.string ⟨⟨k⟩⟩],rfl,hk⟩
     have huk:=qvQ hΓ m2 m3 hyd;rcases qlQ hΓ m2 m3 hyd es.toList hks with⟨f1,f2⟩ | ⟨j,e,f1,f2,f3⟩
     ·have hrun:=qjX (w:=w) m1 i1 i4 huk (.inr ⟨mm,clock,rfl,h2⟩) f1 true;have h0:fmHas ks y=false:=by
       unfold fmHas;rw[zi2];intro k hk hc;have hky:k=y:=eq_of_beq hc;subst hky;obtain⟨i,hi⟩:=zq1 hk;have hil:i<vs.length:=by rw[h4]; exact(zp.1 hi).1
       have hz2:((Value.string ⟨⟨k⟩⟩),vs[i])∈(ks.map fun k=>(Value.string ⟨⟨k⟩⟩)).zip vs:=
        zK (List.getElem?_zip_eq_some.2 ⟨by rw[zH,hi]; rfl,zj hil⟩)
       obtain⟨e0,he0,hq0⟩:=zW.1 (h5.mem_iff.2 hz2);injection hq0 with hq0 _
       exact f2 e0 he0 (by rw[hq0,hkey])
      have hrun':(Instr.lookup t (.map (some mm)) uk true).run P w=.ok (.tuple #[ej.zero,.bool false]) w:=hrun;refine⟨.tuple #[ej.zero,.bool false],by simp only[execOp,he,hu0,hrun',zl,zn,zh],?_⟩
      exact fin _ _ (.inl ⟨hz,fun x=>by unfold fmG; rw[h0]; rfl⟩) h0.symm
     ·have hrun:=qjX (w:=w) m1 i1 i4 huk (.inr ⟨mm,clock,rfl,h2⟩) f1 true;have hrun':(Instr.lookup t (.map (some mm)) uk true).run P w=.ok (.tuple #[e.val,.bool true]) w:=hrun;obtain⟨i,k,k1,k2,k3⟩:=hmem e (zK (by simpa using f2))
      have hy2:k=y:=by
       rw[f3,hkey] at k3;injection k3 with k3; injection k3 with k3; injection k3 with k3; exact k3.symm
      subst hy2;have h0:fmHas ks k=true:=by
       unfold fmHas;rw[zo2];exact⟨k,zK k1,by simp⟩
      refine⟨.tuple #[e.val,.bool true],by simp only[execOp,he,hu0,hrun',zl,zn,zh],?_⟩
      have hg:fmG ks g k=fun x=>g (k,x):=by funext x; unfold fmG; rw[h0]; rfl
      refine fin _ _ ?_ h0.symm
      rw[hg];exact h6 i k e.val k1 k2
   ·cases h
  ·cases h
/-! ### A walk begins; the entry at which it stands -/
def qw4(Γ:List TI)(st:St)(N d:Nat)(t:TypeId)(x:Operand):Option MR:=match d with
 | 0=>none
 | _+1=>none
theorem qy4(hΓ:Tys P Γ){d:Nat}{t:TypeId}{x:Operand}{r:MR}(h:qw4 Γ st N d t x=some r):MOk P w0 M N F0 ops st (some d) (.range t x) rty r:=by
 unfold qw4 at h;split at h <;> cases h
def qw5(st:St)(x:Operand):Option VR:=match x with
 | .tmp _=>none
 | _=>none
theorem qy5{x:Operand}{r:VR}(h:qw5 st x=some r):VOk P w0 M N st (.entry x) rty r:=by
 unfold qw5 at h;split at h <;> cases h
/-! ### Bytes as a string -/
def qw6(Γ:List TI)(st:St)(src dst:TypeId)(x:Operand):Option VR:=
 match look Γ src,look Γ dst with
 | some i,some j=>match i.desc,j.desc with
  | .slice e,.string=>match look Γ e with
   | some q=>match q.desc with
    | .int .u8=>match st.ev x with
     | .v (.sl (.int .u8)) l=>some ⟨true,qaa x,.v .str (qbK l)⟩
     | _=>none
    | _=>none
   | none=>none
  | _,_=>none
 | _,_=>none
theorem qr0:∀(l:List Int) (s:ByteArray),(l.foldl (fun r n=>r.push (UInt8.ofNat n.toNat)) s).data.toList=s.data.toList++qbK l
 | [],s=>by simp[qbK]
 | n::l,s=>by
  rw[List.foldl_cons,qr0 l];simp[qbK,ByteArray.push]
theorem qAp{src dst e:TypeId}(hu:P.underlying src=some (.slice e))(hw:P.underlying e=some (.int .u8))(hv:P.underlying dst=some .string){l:List Int}{u:Value}(h:RdV F w (.sl (.int .u8)) l u):
  ∃b:ByteArray,b.data.toList=qbK l/\(convert src dst u).run P w=.ok (.string b) w:=by
 obtain⟨cs,⟨ad,cap,rfl,hc⟩,rfl⟩:=h;cases ad with
 | none=>
  have hl:l=[]:=hc;subst hl;exact⟨ByteArray.empty,rfl,run_convert_bytes_nil w src e hu hw _ _ dst hv⟩
 | some a0=>
  obtain⟨_,_,_,h4⟩:=hc;have hl:(loadCells a0 l.length).run P w=.ok (l.map (Value.int .u8)).toArray w:=by
   have:=z43 (P:=P) w a0 (l.map (Value.int .u8)) (fun j v hj=>by
    have hjl:j<l.length:=by have:=(zp.1 hj).1; simpa using this
    have hlj:l[j]? = some l[j]:=zj hjl;rw[zH,hlj] at hj;simp only[zf1,zt1] at hj;obtain⟨es,e1,e2⟩:=h4 j l[j] hlj;have e1':es=[.int .u8 l[j]]:=e1;subst e1';have h9:=e2 0 _ rfl;rw[<-hj];have e3:j*(Ty.int .u8).size+0=j:=by simp[Ty.size]
    rw[e3] at h9;exact h9)
   simpa using this
  refine⟨_,?_,(run_convert_bytes_string w src dst e _ _ _ hu hw hv).trans (run_bytesToString w a0 _ _ l hl)⟩
  rw[qr0]; rfl
theorem qy6(hΓ:Tys P Γ){src dst:TypeId}{x:Operand}{r:VR}(h:qw6 Γ st src dst x=some r):VOk P w0 M N st (.convert src dst x) rty r:=by
 unfold qw6 at h;split at h
 ·rename_i i j hi hj;obtain⟨hi1,hi2⟩:=qao hΓ hi;obtain⟨hj1,hj2⟩:=qao hΓ hj;have hu:=hi1.und;have hv:=hj1.und;rw[hi2] at hu;rw[hj2] at hv;split at h
  ·rename_i e d1 d2;split at h
   ·rename_i q hq;obtain⟨hq1,hq2⟩:=qao hΓ hq;have hw:=hq1.und;rw[hq2] at hw;split at h
    ·rename_i d3;split at h
     ·rename_i l hx;cases h
      rw[d1] at hu;rw[d2] at hv;rw[d3] at hw;intro st' hag F U a w hr dst' pos af gd;have hxd:=hr.evx hag (fun _ h=>h) (x:=x)
      rw[hx] at hxd;generalize he:a.eval x=u at hxd;cases hxd with
      | v hd=>
       obtain⟨b,hb,hrun⟩:=qAp (dst:=dst) hu hw hv hd;refine⟨.string b,?_,.v ⟨[.string b],?_,rfl⟩⟩
       ·simp only[execOp,he,hrun,zl,zn,zh]
       ·show [Value.string b]=[Value.string ⟨⟨qbK l⟩⟩];rw[<-hb]
     ·cases h
    ·cases h
   ·cases h
  ·cases h
 ·cases h
/-! ### What of an own array begins at an element; a copy within an array -/
def qAq(Γ:List TI)(st:St)(t:TypeId)(x lo:Operand):Option VR:=
 match st.ev x,(st.ev lo).int? with
 | .own b,some (_,m)=>match st.a b with
  | some (.arr _ e l)=>bif qgE Γ t e.size then some ⟨decide (0<l.length)&&inR m l.length l.length,qaa x++(qaa lo++[.a b]),.rest b e.size m.toNat l.length⟩ else none
  | _=>none
 | _,_=>none
theorem qAr(hΓ:Tys P Γ){t:TypeId}{x lo:Operand}{r:VR}(h:qAq Γ st t x lo=some r)(hg:r.g=true):VOk P w0 M N st (.slice t x (some lo) none none) rty r:=by
 unfold qAq at h;split at h
 ·rename_i b k m hx hm;split at h
  ·rename_i te e l hA;cases hs:qgE Γ t e.size with
   | false=>rw[hs] at h; cases h
   | true=>
    rw[hs] at h; cases h
    obtain⟨et,hu,hsz⟩:=qem hΓ hs;simp only[inR,z8,zi] at hg;intro st' hag F U a w hr dst pos af gd;have hxd:=hr.evx hag (fun _ h=>mem_l h) (x:=x)
    have hlo:=(hr.evx hag (fun _ h=>mem_r (mem_l h)) (x:=lo)).int hm
    have hA':st'.a b=some (.arr te e l):=by rw[<-(hag (.a b) (by simp):st.a b=st'.a b)]; exact hA
    rw[hx] at hxd;generalize he:a.eval x=u at hxd;cases hxd with
    | own hρ=>
     obtain⟨u',q1,xs,q2,q3⟩:=hr.mem.arr b _ hA';rw[hρ] at q1; cases q1
     rcases q2.2 with⟨ad,_,h3⟩ | ⟨g,cap,cur,rfl,h6,h7,h8,h9,h10⟩
     ·omega
     ·have hb:=qiq (P:=P) (w:=w) (isS:=true) (n:=l.length) (c:=cap+1) (lo:=some (k,m)) (hi:=none) (by simp only[bdLo,bdHi]; omega) (by simp only[bdHi]; omega) (fun _ _ e=>by injection e with e; injection e with _ e; subst e; omega) (fun _ _ e=>by cases e)
      have hd:Den P F w U (.rest b e.size m.toNat l.length) _:=.rest (k:=e.size) (lo:=m.toNat) hρ (by omega) h7
      refine⟨_,?_,hd⟩
      simp only[valOf,zf1,zP1,bdLo,bdHi] at hb;simp only[execOp,he,hlo,zf1,zP1,Instr.sliceAt,Instr.slice,zl,zu hu,zh,hb,hsz,zn];simp[Addr.add];split
      ·rfl
      ·congr 1;split
       ·rename_i h0; rw[h0]
       ·rfl
  ·cases h
 ·cases h
def evPre(Γ:List TI)(st:St)(t:TypeId)(x hi:Operand):Option VR:=
 match st.ev x,(st.ev hi).int? with
 | .own b,some (_,m)=>match st.a b with
  | some (.arr _ e l)=>bif qgE Γ t e.size then some ⟨decide (0<l.length)&&inR 0 m l.length,qaa x++(qaa hi++[.a b]),.pre b m.toNat l.length⟩ else none
  | _=>none
 | _,_=>none
theorem qCj(hΓ:Tys P Γ){t:TypeId}{x hi:Operand}{r:VR}(h:evPre Γ st t x hi=some r)(hg:r.g=true):VOk P w0 M N st (.slice t x none (some hi) none) rty r:=by
 unfold evPre at h;split at h
 ·rename_i b k m hx hm;split at h
  ·rename_i te e l hA;cases hs:qgE Γ t e.size with
   | false=>rw[hs] at h; cases h
   | true=>
    rw[hs] at h; cases h
    obtain⟨et,hu,hsz⟩:=qem hΓ hs;simp only[inR,z8,zi] at hg;intro st' hag F U a w hr dst pos af gd;have hxd:=hr.evx hag (fun _ h=>mem_l h) (x:=x)
    have hhi:=(hr.evx hag (fun _ h=>mem_r (mem_l h)) (x:=hi)).int hm
    have hA':st'.a b=some (.arr te e l):=by rw[<-(hag (.a b) (by simp):st.a b=st'.a b)]; exact hA
    rw[hx] at hxd;generalize he:a.eval x=u at hxd;cases hxd with
    | own hρ=>
     obtain⟨u',q1,xs,q2,q3⟩:=hr.mem.arr b _ hA';rw[hρ] at q1; cases q1
     rcases q2.2 with⟨ad,_,h3⟩ | ⟨g,cap,cur,rfl,h6,h7,h8,h9,h10⟩
     ·omega
     ·have hb:=qiq (P:=P) (w:=w) (isS:=true) (n:=l.length) (c:=cap+1) (lo:=none) (hi:=some (k,m)) (by simp only[bdLo,bdHi]; omega) (by simp only[bdHi]; omega) (fun _ _ e=>by cases e) (fun _ _ e=>by injection e with e; injection e with _ e; subst e; omega)
      have hd:Den P F w U (.pre b m.toNat l.length) _:=.pre hρ (by omega)
      refine⟨_,?_,hd⟩
      simp only[valOf,zf1,zP1,bdLo,bdHi] at hb;simp only[execOp,he,hhi,zf1,zP1,Instr.sliceAt,Instr.slice,zl,zu hu,zh,hb,hsz,zn];simp[Addr.add]
  ·cases h
 ·cases h
theorem Rel'.rowSet{b g n cap:Nat}{tya:TypeId}{e:Ty}{l l':List e.den}{cur:Array Value}{cs:Array Value}(h:Rel' P w0 M N F U st a w)(hA:st.a b=some (.arr tya e l))(hρ:U b=some (.slice (some ⟨g,0,none⟩) n (cap+1)))
  (hb:w.heap[g]? = some (.cells cur tya (0,0))) (hob:ObOk F (w.setRow g cs) (.arr tya e l') (.slice (some ⟨g,0,none⟩) n (cap+1))):Rel' P w0 M N F U (st.put (.a b (some (.arr tya e l')))) a (w.setRow g cs):=by
 have hp0:st.present b:=.inr (by rw[hA]; simp)
 have hd0:=h.dropA b;have hv0:st.v b=none:=by
  cases hx:st.v b with
  | none=>rfl
  | some x=>
   exfalso;obtain⟨g,arr,h1,_⟩:=h.mem.var b x.1 x.2 hx;rw[hρ] at h1; injection h1 with h1; cases h1
 have hfr:Fr w (fun x=>x=g) (w.setRow g cs):=⟨rfl,rfl,rfl,by simp,fun g' _ hne=>zy2 w g g' _ (fun e=>hne e)⟩
 have hpr:∀b',(st.put (.a b none)).present b'->b'≠b/\st.present b':=by
  intro b' hp;by_cases e:b'=b
  ·subst e;exfalso;rcases hp with hp | hp
   ·exact hp hv0
   ·refine hp ?_
    show(bif Nat.beq b' b' then none else st.a b')=none;simp
  ·refine⟨e,?_⟩
   rcases hp with hp | hp
   ·exact .inl hp
   ·refine .inr ?_
    have hp':(bif Nat.beq b' b then none else st.a b')≠none:=hp;rw[bq e] at hp'; exact hp'
 have hdis:∀b' v x,(st.put (.a b none)).present b'->U b'=some v->blkOf v=some x->¬x=g:=by
  intro b' v x hp hv hg hgr;subst hgr;obtain⟨hne,hp'⟩:=hpr b' hp;exact hne (h.mem.sep b' b v _ x hp' hp0 hv hρ hg rfl)
 have hnF:∀x,F x->¬x=g:=fun x hF hg=>by subst hg; exact h.mem.own b _ x hp0 hρ rfl hF
 have h1:=hd0.move (F':=F) hfr hdis hnF (fun _ h=>h) (fun _ h=>.inl h) (fun x hx=>zw1 (h.mem.fb x hx) hfr.size) (fun x hx hlt'=>(h.lo b _ x hp0 hρ (by subst hx; rfl)).resolve_right (by omega))
 have h2:=h1.addA (b:=b) (A:=.arr tya e l') hρ hv0 hob (fun x hg=>⟨fun b' v hne hp hv' hbk=>by
   obtain⟨_,hp'⟩:=hpr b' hp;exact hne (h.mem.sep b' b v _ x hp' hp0 hv' hρ hbk hg),fun hF=>h.mem.own b _ x hp0 hρ hg hF,h.lo b _ x hp0 hρ hg⟩)
 have e:(st.put (.a b none)).put (.a b (some (.arr tya e l')))=st.put (.a b (some (.arr tya e l'))):=by
  show({ st with a:=_ }:St)={ st with a:=_ }
  congr 1;funext x;show(bif Nat.beq x b then _ else bif Nat.beq x b then none else st.a x)=bif Nat.beq x b then _ else st.a x;cases Nat.beq x b <;> rfl
 rwa[e] at h2
def dstOk(N:Nat):Option Nat->Bool
 | some d=>Nat.blt d N
 | none=>true
def dstWr(s:SV):Option Nat->List Wr
 | some d=>[.r d s]
 | none=>[]
def qAs(Γ:List TI)(st:St)(N:Nat)(dst:Option Nat)(t:TypeId)(x y:Operand):Option MR:=match t with
 | 0=>none
 | _+1=>none
theorem qCk{b k lo n:Nat}{u:Value}(h:Den P F w U (.rest b k lo n) u):∃g cap,U b=some (.slice (some ⟨g,0,none⟩) n cap)/\lo<=n/\n<=cap/\u=.slice (if cap=lo then some ⟨g,0,none⟩ else some ⟨g,lo*k,none⟩) (n-lo) (cap-lo):=by
 cases h with
 | rest h h1 h2=>exact⟨_,_,h,h1,h2,rfl⟩
theorem qoo{i n K q:Nat}(h:i<n)(hq:q<K):i*K+q<n*K:=by
 have:=zD K (show i+1<=n from h)
 rw[z61,zH1] at this; omega
theorem qr1{i n K q:Nat}(hq:q<K):n*K<=i*K+q↔n<=i:=by
 constructor
 ·intro h;refine Nat.le_of_not_lt fun hlt=>?_
  have:=qoo hlt hq; omega
 ·intro h;have:=zD K h; omega
theorem qAt(hΓ:Tys P Γ){dst:Option Nat}{t t2:TypeId}{x y:Operand}{r:MR}(h:qAs Γ st N dst t x y=some r)(hg:r.g=true):MOk P w0 M N F0 ops st dst (.call { callee:=.builtin .copy,args:=#[x,y],argTypes:=#[t,t2] }) rty r:=by
 unfold qAs at h;split at h <;> cases h
def cpyD{A:Type}(l:List A)(lo:Nat)(y:List A):List A:=l.take lo++(y.take (l.length-lo)++l.drop (lo+min y.length (l.length-lo)))
theorem quj{A:Type}(l:List A){lo:Nat}(y:List A)(h:lo<=l.length):(cpyD l lo y).length=l.length:=by
 unfold cpyD;simp only[ze,zm,zR];omega
theorem quk{A:Type}(l:List A){lo:Nat}(y:List A)(h:lo<=l.length)(i:Nat):(cpyD l lo y)[i]? = if lo<=i/\i<lo+min y.length (l.length-lo) then y[i-lo]? else l[i]?:=by
 unfold cpyD;by_cases h1:i<lo
 ·rw[zY (by rw[zm]; omega),zr,if_pos h1,if_neg (by omega)]
 ·rw[zX (by rw[zm]; omega),zm,ze1 h]
  by_cases h2:i<lo+min y.length (l.length-lo)
  ·rw[zY (by rw[zm]; omega),zr,if_pos (by omega),if_pos ⟨by omega,h2⟩]
  ·rw[zX (by rw[zm]; omega),zE,if_neg (by omega)]
   congr 1;rw[zm]; omega
theorem qy7{b g cap lo:Nat}{te t t2 et:TypeId}{e:Ty}{l y:List e.den}{u sv:Value}(hr:Rel' P w0 M N F U st a w)(hA:st.a b=some (.arr te e l))(hρ:U b=some (.slice (some ⟨g,0,none⟩) l.length cap))(g3:0<l.length)(p1:lo<=l.length)(c3:0<e.size)
  (hu:P.underlying t=some (.slice et)) (hsz:∀w:World,(Go.sizeOf et).run P w=.ok e.size w)
  (hdst:∃ad c,u=.slice (some ad) (l.length-lo) c/\(min y.length (l.length-lo)≠0->ad=⟨g,lo*e.size,none⟩))
  (hsrc:(∃c,sv=.slice none 0 c/\y=[])\/∃(ad:Addr) (c:Nat) (news:List Value),sv=.slice (some ad) y.length c/\news.length=y.length*e.size∧
   (∀q u,news[q]? = some u->w.cell? (ad.add q)=some u/\u.oneCell'=true)/\∀(q:Nat) (x:e.den),y[q]? = some x->RdC F w e x ((news.drop (q*e.size)).take e.size)):
  ∃w',(Builtin.copy_ #[t,t2] rty #[u,sv]).run P w=.ok (.int .i64 (Int.ofNat (min y.length (l.length-lo)))) w'/\Rel' P w0 M N F U (st.put (.a b (some (.arr te e (cpyD l lo y))))) a w':=by
 obtain⟨u',q1,xs,q2,q3⟩:=hr.mem.arr b _ hA;rw[hρ] at q1; injection q1 with q1
 rcases q2.2 with⟨ad,h3,h4⟩ | ⟨g0,cap0,cur,h5,h6,h7,h8,h9,h10⟩
 ·omega
 ·rw[<-q1] at h5;injection h5 with h5a h5b h5c
  injection h5a with h5a; injection h5a with h5a
  rw[<-h5a] at h6;have hxs:=q2.1;obtain⟨K,hK⟩:∃K,e.size=K:=⟨_,rfl⟩;obtain⟨m,hme⟩:∃m,min y.length (l.length-lo)=m:=⟨_,rfl⟩;have hm:m<=l.length-lo/\m<=y.length:=by omega
  -- the cells that come
  obtain⟨news,hnl,hlen,hfc,hone,hel⟩:∃news:List Value,news.length=m*e.size/\(Builtin.lenOf sv).run P w=.ok y.length w/\(Builtin.firstCells e.size m sv).run P w=.ok news.toArray w/\(∀v∈news,v.oneCell'=true)∧
    ∀(q:Nat) (x:e.den),q<m->y[q]? = some x->RdC F w e x ((news.drop (q*e.size)).take e.size):=by
   rcases hsrc with⟨c,rfl,rfl⟩ | ⟨ad,c,news,rfl,n1,n2,n3⟩
   ·have hm0:m=0:=by have:=hm.2; simpa using this
    exact⟨[],by simp[hm0],by simp[Builtin.lenOf],by simp[Builtin.firstCells],by simp,fun q x hq=>by omega⟩
   ·have hmy:m*e.size<=y.length*e.size:=zD _ hm.2;have hnt:(news.take (m*e.size)).length=m*e.size:=by rw[zm,n1]; omega
    refine⟨news.take (m*e.size),hnt,by simp[Builtin.lenOf],?_,fun v hv=>?_,fun q x hq hx=>?_⟩
    ·have hl:=z43 (P:=P) w ad (news.take (m*e.size)) (fun j v hj=>by
      rw[zr] at hj;split at hj
      ·exact(n2 j v hj).1
      ·cases hj)
     rw[hnt] at hl;simpa[Builtin.firstCells] using hl
    ·obtain⟨p,hp⟩:=zq1 (zD2 hv);exact(n2 p v hp).2
    ·have:=n3 q x hx;have hq1:q*e.size+e.size<=m*e.size:=by rw[<-ze2]; exact zD _ hq
     rw[zY1,zO1,ze1 (by omega)]
     exact this
  rw[hK] at hxs h9 h10 hsz c3 hdst hnl hfc hel;have a2:(lo+m)*K<=l.length*K:=zD K (by omega)
  have a3:l.length*K<=(cap0+1)*K:=zD K h7;rw[z61] at a2;have hrun:(Builtin.copy_ #[t,t2] rty #[u,sv]).run P w=.ok (.int .i64 (Int.ofNat m)) (w.setRow g (cur.toList.take (lo*K)++news++cur.toList.drop (lo*K+m*K)).toArray):=by
   have hmin:Nat.min y.length (l.length-lo)=m:=hme;obtain⟨ad,c,rfl,had⟩:=hdst;by_cases hm0:m=0
   ·have hn0:news=[]:=zm1.1 (by rw[hnl,hm0]; simp)
    subst hn0;have e9:(cur.toList.take (lo*K)++[]++cur.toList.drop (lo*K+m*K)).toArray=cur:=by rw[hm0]; simp
    rw[e9,setRow_self w g cur te (0,0) h6];have s0:∀(ad:Addr),(storeCells ad []).run P w=.ok () w:=fun ad=>rfl
    simp[Builtin.copy_,zu hu,hsz,hlen,hmin,hfc,s0,goInt]
   ·have had:=had (by rw[hme]; exact hm0)
    subst had;have hst:=z83 P g (lo*K) te news 0 cur w h6 (by rw[hnl,<-zn1,zn1,h9]; omega) hone
    simp only[zC1,hnl] at hst ⊢;simp[Builtin.copy_,zu hu,hsz,hlen,hmin,hfc,hst,goInt]
  have hob:ObOk F (w.setRow g (cur.toList.take (lo*K)++news++cur.toList.drop (lo*K+m*K)).toArray) (.arr te e (cpyD l lo y)) (.slice (some ⟨g,0,none⟩) l.length (cap0+1)):=by
   have hnF:∀x,F x->x≠g:=fun x hF hg=>by
    subst hg;exact hr.mem.own b _ x (.inr (by rw[hA]; simp)) hρ (by rw[h5c]; rfl) hF
   have hc:∀x,F x->(w.setRow g (cur.toList.take (lo*K)++news++cur.toList.drop (lo*K+m*K)).toArray).heap[x]? = w.heap[x]?:=fun x hF=>zy2 w g x _ (hnF x hF)
   have hcur:cur.toList.length=(cap0+1)*K:=by rw[zn1,h9]
   have hnew:(cur.toList.take (lo*K)++news++cur.toList.drop (lo*K+m*K)).length=(cap0+1)*K:=by
    simp only[ze,hnl,zm,zR,hcur]; omega
   have hxc:∀i,i<l.length*K->xs[i]? = cur.toList[i]?:=fun i hi=>by rw[<-h10,zr,if_pos hi]
   have hsplice:∀i,i<l.length*K->(cur.toList.take (lo*K)++news++cur.toList.drop (lo*K+m*K))[i]? = if lo*K<=i/\i<lo*K+m*K then news[i-lo*K]? else xs[i]?:=by
    intro i hi;have:=qen cur.toList (lo*K) news (by rw[hnl,hcur]; omega) i
    rw[hnl] at this;rw[this];by_cases h1:i<lo*K
    ·rw[if_pos h1,if_neg (by omega),hxc i hi]
    ·rw[if_neg h1];by_cases h2:i<lo*K+m*K
     ·rw[if_pos h2,if_pos ⟨by omega,h2⟩]
     ·rw[if_neg h2,if_neg (by omega),hxc i hi]
   have hlc:=quj l y p1;refine⟨(cur.toList.take (lo*K)++news++cur.toList.drop (lo*K+m*K)).take (l.length*K),⟨by rw[zm,hlc,hK,hnew]; omega,.inr ⟨g,cap0,_,by rw[hlc],zs2 w g cur _ te (0,0) h6,by rw[hlc]; exact h7,h8,by rw[hK]; simpa using hnew,by rw[hlc,hK]⟩⟩,fun i z hz=>?_⟩
   rw[quk l y p1,hme] at hz;have hil:i<l.length:=by
    by_cases h1:lo<=i/\i<lo+m
    ·omega
    ·rw[if_neg h1] at hz; exact(zp.1 hz).1
   have hb1:∀q,q<K->(lo*K<=i*K+q↔lo<=i):=fun q hq=>qr1 hq
   have hb2:∀q,q<K->(i*K+q<lo*K+m*K↔i<lo+m):=fun q hq=>by
    rw[<-z61];have:=qr1 (i:=i) (n:=lo+m) hq;omega
   by_cases h1:lo<=i/\i<lo+m
   ·rw[if_pos h1] at hz;have h2:=(hel (i-lo) z (by omega) hz).mono (F':=F) (fun _ h=>h) hc
    have e9:((((cur.toList.take (lo*K)++news++cur.toList.drop (lo*K+m*K)).take (l.length*K)).drop (i*e.size)).take e.size)=(news.drop ((i-lo)*K)).take e.size:=by
     rw[hK];apply zR1;intro q;rw[zr,zr];by_cases hq:q<K
     ·rw[if_pos hq,if_pos hq,zE,zE];have hiq:=qoo hil hq;rw[zr,if_pos hiq,hsplice _ hiq,if_pos ⟨(hb1 q hq).2 h1.1,(hb2 q hq).2 h1.2⟩];congr 1;have h3:(i-lo)*K+lo*K=i*K:=by rw[<-z61]; congr 1; omega
      omega
     ·rw[if_neg hq,if_neg hq]
    rw[e9,hK]; exact h2
   ·rw[if_neg h1] at hz;have h2:=(q3 i z hz).mono (F':=F) (fun _ h=>h) hc
    have e9:((((cur.toList.take (lo*K)++news++cur.toList.drop (lo*K+m*K)).take (l.length*K)).drop (i*e.size)).take e.size)=(xs.drop (i*e.size)).take e.size:=by
     rw[hK];apply zR1;intro q;rw[zr,zr];by_cases hq:q<K
     ·rw[if_pos hq,if_pos hq,zE,zE];have hiq:=qoo hil hq;rw[zr,if_pos hiq,hsplice _ hiq,if_neg (fun h=>h1 ⟨(hb1 q hq).1 h.1,(hb2 q hq).1 h.2⟩)]
     ·rw[if_neg hq,if_neg hq]
    rw[e9]; exact h2
  have hV2:U b=some (.slice (some ⟨g,0,none⟩) l.length (cap0+1)):=by rw[hρ,h5c]
  exact⟨_,by rw[hme]; exact hrun,hr.rowSet hA hV2 h6 hob⟩
def qDD(K n:Nat):SV->Option (Nat×Bool)
 | .own _=>some (0,true)
 | .rest _ k lo n'=>bif Nat.beq k K then some (lo,decide (n'=n)) else none
 | _=>none
def copyB:SV->Option Nat
 | .own b=>some b
 | .rest b _ _ _=>some b
 | _=>none
def qxV(b:Nat)(e:Ty)(l:List e.den):SV->Option (List e.den×Bool)
 | .pre b' hi n=>bif Nat.beq b b' then some (l.take hi,decide (n=l.length)&&decide (hi<=l.length)) else none
 | s=>match s.as (.sl e) with
  | some y=>some (y,true)
  | none=>none
def qw7(Γ:List TI)(st:St)(N:Nat)(dst:Option Nat)(t:TypeId)(x y:Operand):Option MR:=
 match copyB (st.ev x) with
 | some b=>match st.a b with
  | some (.arr te e l)=>match qDD e.size l.length (st.ev x),qxV b e l (st.ev y) with
   | some (lo,g1),some (z,g2)=>bif qgE Γ t e.size&&Nat.blt 0 e.size&&dstOk N dst then
     some ⟨(g1&&g2)&&decide (0<l.length),qaa x++(qaa y++[.a b]),.a b (some (.arr te e (cpyD l lo z)))::dstWr (.v (.int .i64) (Int.ofNat (min z.length (l.length-lo)))) dst⟩
    else none
   | _,_=>none
  | _=>none
 | none=>none
theorem qy8(hΓ:Tys P Γ){dst:Option Nat}{t t2:TypeId}{x y:Operand}{r:MR}(h:qw7 Γ st N dst t x y=some r)(hg:r.g=true):MOk P w0 M N F0 ops st dst (.call { callee:=.builtin .copy,args:=#[x,y],argTypes:=#[t,t2] }) rty r:=by
 unfold qw7 at h;split at h
 ·rename_i b hb;split at h
  ·rename_i te e l hA;split at h
   ·rename_i lo g1 z g2 hto hfrom;generalize hc:(qgE Γ t e.size&&Nat.blt 0 e.size&&dstOk N dst)=c at h;cases c with
    | false=>cases h
    | true=>
     simp only[zb] at h;cases h
     simp only[z8] at hc;obtain⟨⟨c2,c3⟩,c4⟩:=hc;rw[zS] at c3;obtain⟨et,hu,hsz⟩:=qem hΓ c2;simp only[z8,zi] at hg;obtain⟨⟨g1t,g2t⟩,g3⟩:=hg;intro pos af;refine RT.stepW rfl fun st' hag F U a w hr=>?_
     have hxd:=hr.evx hag (fun _ h=>mem_l h) (x:=x)
     have hyd:=hr.evx hag (fun _ h=>mem_r (mem_l h)) (x:=y)
     have hA':st'.a b=some (.arr te e l):=by rw[<-(hag (.a b) (by simp):st.a b=st'.a b)]; exact hA
     obtain⟨u0,hρ0,xs,q2,q3⟩:=hr.mem.arr b _ hA';have hob0:∃g cap,u0=.slice (some ⟨g,0,none⟩) l.length cap/\l.length<=cap:=by
      rcases q2.2 with⟨ad,_,h3⟩ | ⟨g,cap,cur,rfl,h6,h7,h8,h9,h10⟩
      ·omega
      ·exact⟨g,cap+1,rfl,h7⟩
     obtain⟨g,cap,rfl,hcap⟩:=hob0
     -- where it goes
     have hd:lo<=l.length/\∃ad c,a.eval x=.slice (some ad) (l.length-lo) c/\(min z.length (l.length-lo)≠0->ad=⟨g,lo*e.size,none⟩):=by
      unfold qDD at hto;split at hto
      ·rename_i b' hx;injection hto with hto; injection hto with e1 e2; subst e1 e2
       rw[hx] at hb hxd;have:b'=b:=by injection hb
       subst this;generalize a.eval x=u at hxd;cases hxd with
       | own hρ=>
        rw[hρ0] at hρ; cases hρ
        exact⟨zN _,_,_,rfl,fun _=>by simp⟩
      ·rename_i b' k lo' n' hx;rw[hx] at hb hxd;have:b'=b:=by injection hb
       subst this;cases hk:Nat.beq k e.size with
       | false=>rw[hk] at hto; cases hto
       | true=>
        rw[hk] at hto;injection hto with hto; injection hto with e1 e2; subst e1 e2
        have hk:=zd hk;subst hk;have hn:=zx g1t;subst hn;obtain⟨g',cap',hρ,p1,p2,hu1⟩:=qCk hxd;rw[hρ0] at hρ; injection hρ with hρ; injection hρ with e1 e2 e3
        injection e1 with e1; injection e1 with e1
        subst e1 e3;refine⟨p1,?_⟩
        rw[hu1];by_cases hcl:cap=lo'
        ·rw[if_pos hcl];exact⟨_,_,rfl,fun hne=>by omega⟩
        ·rw[if_neg hcl];exact⟨_,_,rfl,fun _=>rfl⟩
      ·cases hto
     have hs:(∃c,a.eval y=.slice none 0 c/\z=[])\/∃(ad:Addr) (c:Nat) (news:List Value),a.eval y=.slice (some ad) z.length c/\news.length=z.length*e.size∧
       (∀q u,news[q]? = some u->w.cell? (ad.add q)=some u/\u.oneCell'=true)/\∀(q:Nat) (x:e.den),z[q]? = some x->RdC F w e x ((news.drop (q*e.size)).take e.size):=by
      unfold qxV at hfrom;split at hfrom
      ·rename_i b' hi n hy;cases hbb:Nat.beq b b' with
       | false=>rw[hbb] at hfrom; cases hfrom
       | true=>
        rw[hbb] at hfrom;injection hfrom with hfrom; injection hfrom with e1 e2; subst e1 e2
        have hbb:=zd hbb;subst hbb;rw[z8] at g2t;have hn:=zx g2t.1;have hhi:=zx g2t.2;subst hn;rw[hy] at hyd;generalize a.eval y=u at hyd;cases hyd with
        | pre hρ hh=>
         rw[hρ0] at hρ; injection hρ with hρ; injection hρ with e1 e2 e3
         injection e1 with e1; injection e1 with e1
         subst e1 e3;rcases qrq hr.mem hA' hρ0 with⟨c,h1,h2⟩ | ⟨ad,c,news,h1,n1,n2,n3⟩
         ·cases h1
         ·injection h1 with h1a h1b h1c
          injection h1a with h1a
          subst h1a;right;have hlt:(l.take hi).length=hi:=by rw[zm]; omega
          have hle:hi*e.size<=l.length*e.size:=zD _ hhi;refine⟨_,_,news.take (hi*e.size),by rw[hlt],by rw[hlt,zm,n1]; omega,fun q u hq=>?_,fun q x hx=>?_⟩
          ·rw[zr] at hq;split at hq
           ·exact n2 q u hq
           ·cases hq
          ·rw[zr] at hx;split at hx
           ·rename_i hq;have hq1:q*e.size+e.size<=hi*e.size:=by rw[<-ze2]; exact zD _ hq
            rw[zY1,zO1,ze1 (by omega)]
            exact n3 q x hx
           ·cases hx
      ·split at hfrom
       ·rename_i y' hy';injection hfrom with hfrom; injection hfrom with e1 e2; subst e1 e2
        exact qoU (qqJ hy' hyd)
       ·cases hfrom
     obtain⟨w',hrun,hR⟩:=qy7 (rty:=rty) (t2:=t2) hr hA' hρ0 g3 hd.1 c3 hu hsz hd.2 hs;cases dst with
     | none=>
      refine⟨.int .i64 (Int.ofNat (min z.length (l.length-lo))),U,F,_,.inl ?_,hR,fun _ h=>h,fun _ h=>.inl h⟩
      simp only[execOp,resolve,invoke,builtin,zl,zn,zh,zr1,z81,zK1,hrun]
     | some d=>
      refine⟨.int .i64 (Int.ofNat (min z.length (l.length-lo))),U,F,_,.inl ?_,hR.setR (by rw[dstOk,zS] at c4; exact c4) (.ofInt _ _),fun _ h=>h,fun _ h=>.inl h⟩
      simp only[execOp,resolve,invoke,builtin,zl,zn,zh,zr1,z81,zK1,hrun]
   ·cases h
  ·cases h
 ·cases h
def qw8(Γ:List TI)(st:St)(N:Nat)(dst:Option Nat)(t:TypeId)(x y:Operand):Option MR:=
 match qAs Γ st N dst t x y with
 | some r=>some r
 | none=>qw7 Γ st N dst t x y
theorem qy9(hΓ:Tys P Γ){dst:Option Nat}{t t2:TypeId}{x y:Operand}{r:MR}(h:qw8 Γ st N dst t x y=some r)(hg:r.g=true):MOk P w0 M N F0 ops st dst (.call { callee:=.builtin .copy,args:=#[x,y],argTypes:=#[t,t2] }) rty r:=by
 unfold qw8 at h;split at h
 ·rename_i r' hr; cases h; exact qAt hΓ hr hg
 ·exact qy8 hΓ h hg
def qw9(Γ:List TI)(st:St):Op->Option VR
 | .lookup t x ix ok=>match qrZ Γ st t x ix ok with
  | some r=>some r
  | none=>evFm Γ st t x ix ok
 | .slice t x (some lo) none none=>qAq Γ st t x lo
 | .slice t x none (some hi) none=>evPre Γ st t x hi
 | .entry x=>qw5 st x
 | .convert s d x=>qw6 Γ st s d x
 | _=>none
theorem qza(hΓ:Tys P Γ){op:Op}{r:VR}(h:qw9 Γ st op=some r)(hg:r.g=true):VOk P w0 M N st op rty r:=by
 unfold qw9 at h;split at h
 ·split at h
  ·rename_i r' hr; cases h; exact qvS hΓ hr
  ·exact qEp hΓ h
 ·exact qAr hΓ h hg
 ·exact qCj hΓ h hg
 ·exact qy5 h
 ·exact qy6 hΓ h
 ·cases h
def qxa(Γ:List TI)(st:St)(N:Nat)(dst:Option Nat):Op->Option MR
 | .range t x=>match dst with
  | some d=>qw4 Γ st N d t x
  | none=>none
 | .call ⟨.builtin .copy,⟨[x,y]⟩,⟨[t,_]⟩⟩=>qw8 Γ st N dst t x y
 | op=>qAn Γ st N dst op
theorem qzb(hΓ:Tys P Γ){dst:Option Nat}{op:Op}{r:MR}(h:qxa Γ st N dst op=some r)(hg:r.g=true):MOk P w0 M N F0 ops st dst op rty r:=by
 unfold qxa at h;split at h
 ·split at h
  ·exact qy4 hΓ h
  ·cases h
 ·exact qy9 hΓ h hg
 ·exact qAo hΓ h hg
end
end Go.Sq
