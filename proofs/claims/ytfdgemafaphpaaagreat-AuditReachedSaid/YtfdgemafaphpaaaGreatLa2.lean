/- Lots: the network that is made of numbers, part 2. No condition. -/
import Derived.Test.YtfdgemafaphpaaaGreatLa1
namespace Go.Proofs.YtfdgemafaphpaaaGreat
open Go Go.Sq
structure qxh(k i:Nat)(l:List Port):Prop where
 len:l.length<=i
 nam:l.map (·.1)=nms 113 l.length
 rng:∀p∈l,0<=p.2.1/\p.2.1<k/\0<=p.2.2/\p.2.2<=100000000
structure qxi(i:Nat)(l:List Stat):Prop where
 len:l.length<=i
 nam:l.map (·.1)=nms 115 l.length
 dif:(l.map (·.2.1)).Nodup
 rng:∀t∈l,0<=t.2.1/\t.2.1<i/\(0<=t.2.2.1/\t.2.2.1<=100000000)/\(0<=t.2.2.2.1/\t.2.2.2.1<=100000)/\(0<=t.2.2.2.2/\t.2.2.2.2<=100000000)
structure SegsP(k:Nat)(l:List Seg):Prop where
 len:l.length<=8
 nam:l.map (·.1)=nms 103 l.length
 rng:∀s∈l,SegP k s
structure NetP(k:Nat)(n:Net):Prop where
 k2:2<=k
 k6:k<=6
 nodes:n.1=nms 110 k
 segs:SegsP k n.2.1
 segk:k-1<=n.2.1.length
 ports:qxh k k n.2.2.1
 some':2<=n.2.2.1.length
 stats:qxi k n.2.2.2.1
 vap : -100000<=n.2.2.2.2.1/\n.2.2.2.2.1<=100000000
 set:0<=n.2.2.2.2.2/\n.2.2.2.2.2<=100
theorem SegsP.more{k:Nat}{l:List Seg}(h:SegsP k l)(hl:l.length<=7){x:Seg}(hn:x.1=nm 103 l.length)(hx:SegP k x):SegsP k (l++[x]):=by
 refine⟨by simp; omega,?_,fun s hs=>?_⟩
 ·rw[zt1,h.nam,zd];show _=nms 103 (l.length+1);rw[qqe]; simp[hn]
 ·rcases zy.1 hs with hs | hs
  ·exact h.rng s hs
  ·rw[zI.1 hs]; exact hx
theorem qD5{s:List Int}{p:Int}(h:SrcOk s p):Ok (qex s p) fun q=>q.2.1=s/\SrcOk s q.2.2/\∃k,NetP k q.1:=by
 unfold qex;refine Ok.bind (srcP h (by simp) (by simp)) ?_
 rintro⟨vap,s1,p1⟩ ⟨e,h,hvap⟩
 replace e:s1=s:=e;subst e
 try simp only at h hvap
 refine Ok.bind (srcP h (by simp) (by simp)) ?_
 rintro⟨set',s2,p2⟩ ⟨e,h,hset⟩
 replace e:s2=s1:=e;subst e
 try simp only at h hset
 refine Ok.bind (srcR h (by omega) (by omega) (by omega)) ?_
 rintro⟨kk,s3,p3⟩ ⟨e,h,hk2,hk6⟩
 replace e:s3=s2:=e;subst e
 try simp only at h hk2 hk6
 obtain⟨k,rfl⟩:∃k:Nat,kk=(k:Int):=⟨kk.toNat,by omega⟩
 have hk2':2<=k:=by omega
 have hk6':k<=6:=by omega
 refine Ok.bind (Q:=fun n:List (List UInt8)=>n=nms 110 k) ?_ ?_
 ·refine Ok.loop (fun x:Int×List (List UInt8)=>∃i:Nat,i<=k/\x.1=((k-i:Nat):Int)/\x.2=nms 110 i) (fun x=>x.1.toNat) ⟨0,by omega,rfl,rfl⟩ ?_
  rintro⟨a,b⟩ ⟨i,hi,e1,e2⟩
  replace e1:a=((k-i:Nat):Int):=e1;replace e2:b=nms 110 i:=e2;subst e1 e2;unfold qhl;simp only;refine Ok.bif (fun hc=>?_) fun hc=>?_
  ·have hc:=zm hc;rw[qo9];refine Ok.eq (name_eq 110 i (by omega)) (Ok.gd (qaj (by omega)) ?_)
   rw[show wi64 (((k-i:Nat):Int)-1)=((k-(i+1):Nat):Int) by rw[wi (by omega)]; omega]
   exact .ret ⟨⟨i+1,by omega,rfl,(qqe _ _).symm⟩,by simp only[z8]; omega⟩
  ·have hc:=zj1 hc;have:i=k:=by omega
   subst this;exact .ret rfl
 rintro nodes rfl
 refine Ok.bind (Q:=fun q:List Int×Int×List (List UInt8)×List Seg=>q.1=s3/\SrcOk s3 q.2.1/\q.2.2.1=nms 110 k/\SegsP k q.2.2.2/\q.2.2.2.length<=5/\k-1<=q.2.2.2.length) ?_ ?_
 ·refine Ok.loop (fun x:Int×List Int×Int×List (List UInt8)×List Seg=>x.2.1=s3/\SrcOk s3 x.2.2.1/\x.2.2.2.1=nms 110 k/\SegsP k x.2.2.2.2/\x.1=(x.2.2.2.2.length:Int)/\x.2.2.2.2.length<=k-1) (fun x=>k-x.2.2.2.2.length) ⟨rfl,h,rfl,⟨by simp,rfl,fun s hs=>by simp at hs⟩,rfl,by simp⟩ ?_
  rintro⟨i,s4,p4,n2,n3⟩ ⟨e,h,e2,hs,ei,hl⟩
  replace e:s4=s3:=e;replace e2:n2=nms 110 k:=e2;replace ei:i=(n3.length:Int):=ei;subst e e2 ei
  try simp only at h hs hl
  unfold qhm;simp only[qo9];rw[show wi64 ((k:Int)-1)=((k-1:Nat):Int) by rw[wi (by omega)]; omega]
  refine Ok.bif (fun hc=>?_) fun hc=>?_
  ·have hc:=zm hc;rw[show wi64 ((n3.length:Int)+1)=((n3.length+1:Nat):Int) by rw[wi (by omega)]; rfl]
   refine Ok.bind (qCu (k:=k) n3.length (by omega) (i:=n3.length) (j:=n3.length+1) (by omega) (by omega) (by omega) (by omega) h) ?_
   rintro⟨sg,s5,p5⟩ ⟨e,h,e1,hsg⟩
   replace e:s5=s4:=e;subst e
   try simp only at h e1 hsg
   refine Ok.gd (qaj (by(try simp only); omega)) ?_
   exact .ret ⟨⟨rfl,h,rfl,hs.more (by omega) (x:=sg) e1 hsg,by simp,by simp; omega⟩,by simp; omega⟩
  ·have hc:=zj1 hc;exact .ret ⟨rfl,h,rfl,hs,by(try simp only); omega,by(try simp only); omega⟩
 rintro⟨s4,p4,n2,n3⟩ ⟨e,h,e2,hs,hl,hlk⟩
 replace e:s4=s3:=e;replace e2:n2=nms 110 k:=e2;subst e e2
 try simp only at h hs hl hlk
 refine Ok.bind (srcN h (n:=4) (by omega) (by omega)) ?_
 rintro⟨m,s5,p5⟩ ⟨e,h,hm0,hm1⟩
 replace e:s5=s4:=e;subst e
 try simp only at h hm0 hm1
 refine Ok.bind (Q:=fun q:List Int×Int×List (List UInt8)×List Seg=>q.1=s5/\SrcOk s5 q.2.1/\q.2.2.1=nms 110 k/\SegsP k q.2.2.2/\k-1<=q.2.2.2.length) ?_ ?_
 ·refine Ok.loop (fun x:Int×List Int×Int×List (List UInt8)×List Seg=>x.2.1=s5/\SrcOk s5 x.2.2.1/\x.2.2.2.1=nms 110 k/\SegsP k x.2.2.2.2/\0<=x.1/\x.1+x.2.2.2.2.length<=8/\k-1<=x.2.2.2.2.length) (fun x=>x.1.toNat) ⟨rfl,h,rfl,hs,hm0,by(try simp only); omega,hlk⟩ ?_
  rintro⟨i,s6,p6,n4,n5⟩ ⟨e,h,e2,hs,hi0,hi1,hlk⟩
  replace e:s6=s5:=e;replace e2:n4=nms 110 k:=e2;subst e e2
  try simp only at h hs hi0 hi1 hlk
  unfold qhn;simp only[qo9];rw[show wi64 ((k:Int)-1)=((k-1:Nat):Int) by rw[wi (by omega)]; omega]
  refine Ok.bif (fun hc=>?_) fun hc=>?_
  ·have hc:=zm hc;refine Ok.bind (srcN h (n:=((k-1:Nat):Int)) (by omega) (by omega)) ?_
   rintro⟨a,s7,p7⟩ ⟨e,h,ha0,ha1⟩
   replace e:s7=s6:=e;subst e
   try simp only at h ha0 ha1
   rw[show wi64 (a+1)=a+1 from wi (by omega)]
   refine Ok.bind (srcR h (lo:=a+1) (hi:=((k-1:Nat):Int)) (by omega) (by omega) (by omega)) ?_
   rintro⟨b,s8,p8⟩ ⟨e,h,hb0,hb1⟩
   replace e:s8=s7:=e;subst e
   try simp only at h hb0 hb1
   obtain⟨a,rfl⟩:∃n:Nat,a=(n:Int):=⟨a.toNat,by omega⟩
   obtain⟨b,rfl⟩:∃n:Nat,b=(n:Int):=⟨b.toNat,by omega⟩
   refine Ok.bind (qCu (k:=k) n5.length (by omega) (i:=a) (j:=b) (by omega) (by omega) (by omega) (by omega) h) ?_
   rintro⟨sg,s9,p9⟩ ⟨e,h,e1,hsg⟩
   replace e:s9=s8:=e;subst e
   try simp only at h e1 hsg
   refine Ok.gd (qaj (by(try simp only); omega)) ?_
   rw[show wi64 (i-1)=i-1 from wi (by omega)]
   exact .ret ⟨⟨rfl,h,rfl,hs.more (by omega) (x:=sg) e1 hsg,by(try simp only); omega,by simp; omega,by simp; omega⟩,by(try simp only); omega⟩
  ·exact .ret ⟨rfl,h,rfl,hs,hlk⟩
 rintro⟨s6,p6,n4,n5⟩ ⟨e,h,e2,hs,hlk⟩
 replace e:s6=s5:=e;replace e2:n4=nms 110 k:=e2;subst e e2
 try simp only at h hs
 refine Ok.bind (Q:=fun q:List Int×Int×List (List UInt8)×List Seg×List Port×List Stat=>q.1=s6/\SrcOk s6 q.2.1/\q.2.2.1=nms 110 k/\q.2.2.2.1=n5/\qxh k k q.2.2.2.2.1/\2<=q.2.2.2.2.1.length/\qxi k q.2.2.2.2.2) ?_ ?_
 ·refine Ok.loop (fun x:Int×List Int×Int×List (List UInt8)×List Seg×List Port×List Stat=>∃i:Nat,x.1=(i:Int)/\i<=k/\x.2.1=s6/\SrcOk s6 x.2.2.1/\x.2.2.2.1=nms 110 k/\x.2.2.2.2.1=n5/\qxh k i x.2.2.2.2.2.1/\((1<=i->1<=x.2.2.2.2.2.1.length)/\(i=k->2<=x.2.2.2.2.2.1.length))/\qxi i x.2.2.2.2.2.2) (fun x=>k-x.1.toNat) ⟨0,rfl,by omega,rfl,h,rfl,rfl,⟨by simp,rfl,fun p hp=>by simp at hp⟩,⟨by omega,by omega⟩,⟨by simp,rfl,by simp,fun p hp=>by simp at hp⟩⟩ ?_
  rintro⟨i',s7,p7,n6,n7,n8,n9⟩ ⟨i,ei,hik,e,h,e2,e3,hP,hP1,hT⟩
  replace ei:i'=(i:Int):=ei;replace e:s7=s6:=e;replace e2:n6=nms 110 k:=e2;replace e3:n7=n5:=e3;subst ei e e2 e3
  try simp only at h hP hP1 hT
  unfold qho;simp only[qo9];rw[show wi64 ((k:Int)-1)=((k-1:Nat):Int) by rw[wi (by omega)]; omega]
  refine Ok.bif (fun hc=>?_) fun hc=>?_
  ·have hc:=zm hc;have hik:i<k:=by omega
   have hpl:=hP.len;have htl:=hT.len;refine Ok.bind (Q:=fun q:Bool×List Int×Int×List (List UInt8)×List Seg×List Port×List Stat=>q.2.1=s7/\SrcOk s7 q.2.2.1/\q.2.2.2=(nms 110 k,n7,n8,n9)/\(i=0\/i=k-1->q.1=true)) (Ok.bif (fun _=>.ret ⟨rfl,h,rfl,fun _=>rfl⟩) fun hc2=>Ok.bif (fun _=>.ret ⟨rfl,h,rfl,fun _=>rfl⟩) fun hc3=>?_) ?_
   ·have hc2:=zj1 hc2;have hc3:=zj1 hc3;refine Ok.bind (srcN h (n:=2) (by omega) (by omega)) ?_
    rintro⟨r,s8,p8⟩ ⟨e,h,_,_⟩
    exact .ret ⟨e,h,rfl,fun h0=>by omega⟩
   rintro⟨b,s8,p8,rest⟩ ⟨e,h,e2,hb⟩
   replace e:s8=s7:=e;replace e2:rest=(nms 110 k,n7,n8,n9):=e2;subst e e2
   try simp only at h hb
   try simp only
   refine Ok.bind (Q:=fun q:List Int×Int×List (List UInt8)×List Seg×List Port×List Stat=>q.1=s8/\SrcOk s8 q.2.1/\q.2.2.1=nms 110 k/\q.2.2.2.1=n7/\qxh k (i+1) q.2.2.2.2.1/\(1<=q.2.2.2.2.1.length/\(i+1=k->2<=q.2.2.2.2.1.length))/\q.2.2.2.2.2=n9) (Ok.bif (fun _=>?_) fun hbf=>?_) ?_
   ·refine Ok.eq (name_eq 113 n8.length (by omega)) ?_
    refine Ok.bind (srcP h (by simp) (by simp)) ?_
    rintro⟨r,s9,p9⟩ ⟨e,h,hr⟩
    replace e:s9=s8:=e;subst e
    try simp only at h hr
    refine Ok.gd (qaj (by omega)) ?_
    refine .ret ⟨rfl,h,rfl,rfl,⟨by simp; omega,?_,fun p hp=>?_⟩,⟨by simp,fun hk=>by have:=hP1.1 (by omega); simp; omega⟩,rfl⟩
    ·simp only[zt1,hP.nam,zd];show _=nms 113 (n8.length+1);rw[qqe]; rfl
    ·rcases zy.1 hp with hp | hp
     ·exact hP.rng p hp
     ·rw[zI.1 hp];simp at hr;simp only; omega
   ·refine .ret ⟨rfl,h,rfl,rfl,⟨by(try simp only); omega,hP.nam,hP.rng⟩,?_,rfl⟩
    have hbn:¬(i=0\/i=k-1):=fun h0=>by have:=hb h0; rw[this] at hbf; cases hbf
    exact⟨hP1.1 (by omega),fun hk=>by omega⟩
   rintro⟨s9,p9,n10,n11,n12,n13⟩ ⟨e,h,e2,e3,hP',hP1',e4⟩
   replace e:s9=s8:=e;replace e2:n10=nms 110 k:=e2;replace e3:n11=n7:=e3;replace e4:n13=n9:=e4;subst e e2 e3 e4
   try simp only at h hP' hP1'
   try simp only
   refine Ok.bind (Q:=fun q:Bool×List Int×Int×List (List UInt8)×List Seg×List Port×List Stat=>q.2.1=s9/\SrcOk s9 q.2.2.1/\q.2.2.2=(nms 110 k,n11,n12,n13)) (Ok.bif (fun _=>?_) fun _=>.ret ⟨rfl,h,rfl⟩) ?_
   ·refine Ok.bind (srcN h (n:=3) (by omega) (by omega)) ?_
    rintro⟨r,s10,p10⟩ ⟨e,h,_,_⟩
    exact .ret ⟨e,h,rfl⟩
   rintro⟨b2,s10,p10,rest⟩ ⟨e,h,e2⟩
   replace e:s10=s9:=e;replace e2:rest=(nms 110 k,n11,n12,n13):=e2;subst e e2
   try simp only at h
   try simp only
   refine Ok.bind (Q:=fun q:List Int×Int×List (List UInt8)×List Seg×List Port×List Stat=>q.1=s10/\SrcOk s10 q.2.1/\q.2.2.1=nms 110 k/\q.2.2.2.1=n11/\q.2.2.2.2.1=n12/\qxi (i+1) q.2.2.2.2.2) (Ok.bif (fun _=>?_) fun _=>?_) ?_
   ·refine Ok.eq (name_eq 115 n13.length (by omega)) ?_
    refine Ok.bind (srcP h (by simp) (by simp)) ?_
    rintro⟨a,s11,p11⟩ ⟨e,h,ha⟩
    replace e:s11=s10:=e;subst e
    try simp only at h ha
    refine Ok.bind (srcP h (by simp) (by simp)) ?_
    rintro⟨b,s12,p12⟩ ⟨e,h,hb⟩
    replace e:s12=s11:=e;subst e
    try simp only at h hb
    refine Ok.bind (srcP h (by simp) (by simp)) ?_
    rintro⟨c,s13,p13⟩ ⟨e,h,hc'⟩
    replace e:s13=s12:=e;subst e
    try simp only at h hc'
    refine Ok.gd (qaj (by omega)) ?_
    refine .ret ⟨rfl,h,rfl,rfl,rfl,⟨by simp; omega,?_,?_,fun t ht=>?_⟩⟩
    ·simp only[zt1,hT.nam,zd];show _=nms 115 (n13.length+1);rw[qqe]; rfl
    ·simp only[zt1,z41,zW1];refine List.nodup_append.2 ⟨hT.dif,by simp,fun x hx y hy e=>?_⟩
     obtain⟨t,ht,rfl⟩:=zX.1 hx;have:=(hT.rng t ht).2.1;simp at hy;omega
    ·rcases zy.1 ht with ht | ht
     ·have:=hT.rng t ht;omega
     ·rw[zI.1 ht];simp at ha hb hc';simp only; omega
   ·exact .ret ⟨rfl,h,rfl,rfl,rfl,⟨by(try simp only); omega,hT.nam,hT.dif,fun t ht=>by have:=hT.rng t ht; omega⟩⟩
   rintro⟨s11,p11,m1,m2,m3,m4⟩ ⟨e,h,e2,e3,e4,hT'⟩
   replace e:s11=s10:=e;replace e2:m1=nms 110 k:=e2;replace e3:m2=n11:=e3;replace e4:m3=n12:=e4;subst e e2 e3 e4
   try simp only at h hT'
   rw[show wi64 ((i:Int)+1)=((i+1:Nat):Int) by rw[wi (by omega)]; rfl]
   exact .ret ⟨⟨i+1,rfl,by omega,rfl,h,rfl,rfl,hP',⟨fun _=>hP1'.1,hP1'.2⟩,hT'⟩,by simp only[z8]; omega⟩
  ·have hc:=zj1 hc;have:i=k:=by omega
   subst this;exact .ret ⟨rfl,h,rfl,rfl,hP,hP1.2 rfl,hT⟩
 rintro⟨s7,p7,m1,m2,m3,m4⟩ ⟨e,h,e2,e3,hP,hP1,hT⟩
 replace e:s7=s6:=e;replace e2:m1=nms 110 k:=e2;replace e3:m2=n5:=e3;subst e e2 e3;refine .ret ⟨rfl,h,k,⟨hk2',hk6',rfl,hs,hlk,hP,hP1,hT,?_,?_⟩⟩
 ·simp at hvap; simp only; omega
 ·simp at hset; simp only; omega
end Go.Proofs.YtfdgemafaphpaaaGreat
