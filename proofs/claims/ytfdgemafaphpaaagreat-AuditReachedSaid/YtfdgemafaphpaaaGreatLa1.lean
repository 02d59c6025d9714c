/- Lots: the network that is made of numbers. No condition. -/
import Derived.Test.YtfdgemafaphpaaaGreatSr
import Derived.Test.YtfdgemafaphpaaaGreatLm0
namespace Go.Proofs.YtfdgemafaphpaaaGreat
open Go Go.Sq
/-! ### Sources -/
theorem srcN{n:Int}{s:List Int}{p:Int}(h:SrcOk s p)(h1:1<=n)(h2:n<=4611686018427387904):Ok (qad n s p) fun q=>q.2.1=s/\SrcOk s q.2.2/\0<=q.1/\q.1<n:=by
 obtain⟨r,p',q1,q2,q3,q4⟩:=n_eq h h1 h2;exact⟨_,q1,rfl,q4,q2,q3⟩
theorem srcR{lo hi:Int}{s:List Int}{p:Int}(h:SrcOk s p)(h0 : -1000000<=lo)(h1:lo<=hi)(h2:hi<=1000000):Ok (qbb lo hi s p) fun q=>q.2.1=s/\SrcOk s q.2.2/\lo<=q.1/\q.1<=hi:=by
 obtain⟨r,p',q1,q2,q3,q4⟩:=qBj h h0 h1 h2;exact⟨_,q1,rfl,q4,q2,q3⟩
theorem srcP{l s:List Int}{p:Int}(h:SrcOk s p)(h1:l≠[])(h2:l.length<=1000000):Ok (qat l s p) fun q=>q.2.1=s/\SrcOk s q.2.2/\q.1∈l:=by
 obtain⟨r,p',q1,q2,q3⟩:=qC3 h h1 h2;exact⟨_,q1,rfl,q3,q2⟩
/-! ### Names -/
def nm(c:UInt8)(i:Nat):List UInt8:=[c,UInt8.ofNat (97+i)]
theorem qBl:∀i:Fin 26,qfc [wu8 (wi64 (97+(Int.tmod ((i.val:Nat):Int) 26)))]=[UInt8.ofNat (97+i.val)]:=by decide +kernel
theorem name_eq(c:UInt8)(i:Nat)(h:i<26):qhi [c] (i:Int)=some (nm c i):=by
 unfold qhi;rw[qBl ⟨i,h⟩];rfl
theorem qD4{c:UInt8}{i j:Nat}(hi:i<26)(hj:j<26)(h:nm c i=nm c j):i=j:=by
 have key:∀a b:Fin 26,UInt8.ofNat (97+a.val)=UInt8.ofNat (97+b.val)->a=b:=by decide +kernel
 unfold nm at h;have h2:UInt8.ofNat (97+i)=UInt8.ofNat (97+j):=by simpa using h
 have:=key ⟨i,hi⟩ ⟨j,hj⟩ h2;exact congrArg Fin.val this
def nms(c:UInt8)(n:Nat):List (List UInt8):=(List.range n).map (nm c)
theorem qo9(c:UInt8)(n:Nat):(nms c n).length=n:=by simp[nms]
theorem qqe(c:UInt8)(n:Nat):nms c (n+1)=nms c n++[nm c n]:=by unfold nms; rw[List.range_succ]; simp
theorem qoE(c:UInt8){n:Nat}(h:n<=26):(nms c n).Nodup:=by
 unfold nms;refine List.Pairwise.map _ (S:=fun a b=>a≠b) (R:=fun a b=>a<n/\b<n/\a≠b) (fun a b hab e=>?_) ?_
 ·exact hab.2.2 (qD4 (by omega) (by omega) e)
 ·refine List.Pairwise.imp_of_mem (R:=fun a b=>a≠b) (fun ha hb hab=>?_) List.nodup_range
  exact⟨zO.1 ha,zO.1 hb,hab⟩
theorem qC5{c:UInt8}{n:Nat}{x:List UInt8}(h:x∈nms c n):∃i,i<n/\x=nm c i:=by
 obtain⟨i,hi,rfl⟩:=zX.1 h;exact⟨i,zO.1 hi,rfl⟩
/-! ### Segments -/
abbrev Pt:=Int×Int×Int
abbrev Seg:=List UInt8×Int×Int×Int×Int×Int×List Pt
abbrev Port:=List UInt8×Int×Int
abbrev Stat:=List UInt8×Int×Int×Int×Int
abbrev Net:=List (List UInt8)×List Seg×List Port×List Stat×Int×Int
def p0:Pt:=(0,0,0)
structure PtsP(cap:Int)(x:List Pt):Prop where
 l2:2<=x.length
 l8:x.length<=8
 rng:∀y∈x,-500<=y.2.1/\y.2.1<=5000/\0<=y.2.2/\y.2.2<=100000000
 inc:∀i,i+1<x.length->(x.getD i p0).1<(x.getD (i+1) p0).1
 fst:(x.getD 0 p0).1=0
 lst:(x.getD (x.length-1) p0).1=cap
structure SegP(k:Nat)(s:Seg):Prop where
 f0:0<=s.2.1
 f1:s.2.1<k
 t0:0<=s.2.2.1
 t1:s.2.2.1<k
 ne:s.2.1≠s.2.2.1
 cap:1<=s.2.2.2.1/\s.2.2.2.1<=1000000
 res:0<=s.2.2.2.2.1/\s.2.2.2.2.1<=1000
 wav:0<=s.2.2.2.2.2.1/\s.2.2.2.2.2.1<=100000
 pts:PtsP s.2.2.2.1 s.2.2.2.2.2.2
structure PreP(cap at':Int)(x:List Pt):Prop where
 l1:1<=x.length
 l7:x.length<=7
 rng:∀y∈x,-500<=y.2.1/\y.2.1<=5000/\0<=y.2.2/\y.2.2<=100000000
 inc:∀i,i+1<x.length->(x.getD i p0).1<(x.getD (i+1) p0).1
 fst:(x.getD 0 p0).1=0
 lst:(x.getD (x.length-1) p0).1=at'
 a0:0<=at'
 a1:at'<cap
theorem qqf{A:Type}{x y:List A}{i:Nat}{d:A}(h:i<x.length):(x++y).getD i d=x.getD i d:=by
 rw[zh,zQ h,<-zh]
theorem qxg{A:Type}{x:List A}{y d:A}{i:Nat}(h:i=x.length):(x++[y]).getD i d=y:=by
 subst h; rw[zh,zL (by omega)]; simp
theorem PreP.more{cap a b:Int}{x:List Pt}(h:PreP cap a x)(hb:a<b){y:Pt}(hy:y.1=b)(hr : -500<=y.2.1/\y.2.1<=5000/\0<=y.2.2/\y.2.2<=100000000):
  (∀z∈x++[y],-500<=z.2.1/\z.2.1<=5000/\0<=z.2.2/\z.2.2<=100000000)/\(∀i,i+1<(x++[y]).length->((x++[y]).getD i p0).1<((x++[y]).getD (i+1) p0).1)/\((x++[y]).getD 0 p0).1=0/\((x++[y]).getD ((x++[y]).length-1) p0).1=b:=by
 have hl:=h.l1;have e1:(x++[y]).length=x.length+1:=by simp
 refine⟨fun z hz=>?_,fun i hi=>?_,?_,?_⟩
 ·rcases zy.1 hz with hz | hz
  ·exact h.rng z hz
  ·rw[zI.1 hz]; exact hr
 ·rw[e1] at hi;by_cases h2:i+1<x.length
  ·rw[qqf (by omega),qqf h2]; exact h.inc i h2
  ·rw[qqf (by omega),qxg (by omega),hy]
   have:=h.lst;rw[show x.length-1=i by omega] at this
   omega
 ·rw[qqf (by omega)]; exact h.fst
 ·rw[e1,qxg (by omega),hy]
theorem qCu{k i j:Nat}(c:Nat)(hc:c<26)(hi:i<k)(hj:j<k)(hne:i≠j)(hk:k<=100){s:List Int}{p:Int}(h:SrcOk s p):
  Ok (qda (c:Int) (i:Int) (j:Int) s p) fun q=>q.2.1=s/\SrcOk s q.2.2/\q.1.1=nm 103 c/\SegP k q.1:=by
 unfold qda;refine Ok.bind (srcN h (n:=4) (by omega) (by omega)) ?_
 rintro⟨r,s',p'⟩ ⟨e,h,h0,h1⟩
 have e:s'=s:=e;subst e
 try simp only at h
 refine Ok.bind (Q:=fun z:Int×Int=>0<=z.1/\z.1<k/\0<=z.2/\z.2<k/\z.1≠z.2) (Ok.bif (fun _=>.ret ⟨by simp only; omega,by simp only; omega,by simp only; omega,by simp only; omega,by simp only; omega⟩) fun _=>.ret ⟨by simp only; omega,by simp only; omega,by simp only; omega,by simp only; omega,by simp only; omega⟩) ?_
 rintro⟨f,t⟩ ⟨z1,z2,z3,z4,z5⟩
 refine Ok.eq (name_eq 103 c hc) ?_
 refine Ok.bind (srcP h (by simp) (by simp)) ?_
 rintro⟨cap,s2,p2⟩ ⟨e,h,hcap⟩
 have e:s2=s':=e;subst e
 try simp only at h hcap
 refine Ok.bind (srcP h (by simp) (by simp)) ?_
 rintro⟨res,s3,p3⟩ ⟨e,h,hres⟩
 have e:s3=s2:=e;subst e
 try simp only at h hres
 refine Ok.bind (srcP h (by simp) (by simp)) ?_
 rintro⟨wav,s4,p4⟩ ⟨e,h,hwav⟩
 have e:s4=s3:=e;subst e
 try simp only at h hwav
 refine Ok.bind (srcP h (by simp) (by simp)) ?_
 rintro⟨lim,s5,p5⟩ ⟨e,h,hlim⟩
 have e:s5=s4:=e;subst e
 try simp only at h hlim
 refine Ok.bind (srcR h (by omega) (by omega) (by omega)) ?_
 rintro⟨hh,s6,p6⟩ ⟨e,h,hh0,hh1⟩
 have e:s6=s5:=e;subst e
 try simp only at h hh0 hh1
 have bcap:1<=cap/\cap<=1000:=by simp at hcap; omega
 have blim:1000000<=lim/\lim<=100000000:=by simp at hlim; omega
 refine Ok.bind (Q:=fun q:List Int×Int×List Pt=>q.1=s6/\SrcOk s6 q.2.1/\∃a,PreP cap a q.2.2) ?_ ?_
 ·refine Ok.loop (fun x:Int×List Int×Int×List Pt=>x.2.1=s6/\SrcOk s6 x.2.2.1/\PreP cap x.1 x.2.2.2) (fun x=>7-x.2.2.2.length) ⟨rfl,h,⟨by simp,by simp,fun y hy=>by rw[zI.1 hy]; simp only; omega,fun i hi=>by simp at hi,rfl,rfl,by simp,by simp only; omega⟩⟩ ?_
  rintro⟨at',s7,p7,x⟩ ⟨e,h,hx⟩
  have e:s7=s6:=e;subst e
  try simp only at h hx
  unfold qhj;simp only;refine Ok.bind (Q:=fun q:Bool×List Int×Int×List Pt=>q.2.1=s7/\SrcOk s7 q.2.2.1/\q.2.2.2=x/\(q.1=true->x.length<7)) (Ok.bif (fun hc=>?_) fun _=>.ret ⟨rfl,h,rfl,fun h=>by cases h⟩) ?_
  ·have hc:=zm hc;refine Ok.bind (srcN h (n:=3) (by omega) (by omega)) ?_
   rintro⟨r,s8,p8⟩ ⟨e,h,_,_⟩
   exact .ret ⟨e,h,rfl,fun _=>by omega⟩
  ·rintro⟨b,s8,p8,x'⟩ ⟨e,h,e2,hb⟩
   have e:s8=s7:=e;have e2:x'=x:=e2;subst e e2
   try simp only at h hb
   refine Ok.bif (fun hbt=>?_) fun _=>.ret ⟨rfl,h,at',hx⟩
   have hx7:=hb hbt;refine Ok.bind (srcR h (by omega) (by omega) (by omega)) ?_
   rintro⟨d,s9,p9⟩ ⟨e,h,d0,d1⟩
   have e:s9=s8:=e;subst e
   try simp only at h d0 d1
   have ha0:=hx.a0;have ha1:=hx.a1;rw[show wi64 (at'+d)=at'+d from wi (by omega)]
   refine Ok.bif (fun _=>.ret ⟨rfl,h,at',hx⟩) fun hc=>?_
   have hc:=zj1 hc
   try simp only at hc
   refine Ok.bind (srcR h (by omega) (by omega) (by omega)) ?_
   rintro⟨g,s10,p10⟩ ⟨e,h,g0,g1⟩
   have e:s10=s9:=e;subst e
   try simp only at h g0 g1
   refine Ok.bind (srcP h (by simp) (by simp)) ?_
   rintro⟨m,s11,p11⟩ ⟨e,h,hm⟩
   have e:s11=s10:=e;subst e
   try simp only at h hm
   refine Ok.bind (srcN h (n:=3) (by omega) (by omega)) ?_
   rintro⟨w,s12,p12⟩ ⟨e,h,w0,w1⟩
   have e:s12=s11:=e;subst e
   try simp only at h w0 w1
   have hm:m=1\/m=10:=by simp at hm; omega
   have hgm : -500<=g*m/\g*m<=5000:=by rcases hm with rfl | rfl <;> omega
   refine Ok.gd (qaj (by simp only; omega)) ?_
   simp only;rw[show wi64 (g*m)=g*m from wi (by omega),show wi64 (w*1000)=w*1000 from wi (by omega),show wi64 (lim-w*1000)=lim-w*1000 from wi (by omega)]
   obtain⟨y1,y2,y3,y4⟩:=hx.more (b:=at'+d) (by omega) (y:=(at'+d,g*m,lim-w*1000)) rfl (by simp only; omega)
   exact .ret ⟨⟨rfl,h,⟨by simp,by simp only[zd,zt,zK]; omega,y1,y2,y3,y4,by simp only; omega,by simp only; omega⟩⟩,by simp only[zd,zt,zK]; omega⟩
 ·rintro⟨s7,p7,x⟩ ⟨e,h,a,hx⟩
  have e:s7=s6:=e;subst e
  try simp only at h hx
  refine Ok.bind (srcR h (by omega) (by omega) (by omega)) ?_
  rintro⟨g,s8,p8⟩ ⟨e,h,g0,g1⟩
  have e:s8=s7:=e;subst e
  try simp only at h g0 g1
  have h7:=hx.l7;have h1':=hx.l1;refine Ok.gd (qaj (by simp only; omega)) ?_
  obtain⟨y1,y2,y3,y4⟩:=hx.more (b:=cap) hx.a1 (y:=(cap,g,lim)) rfl (by simp only; omega)
  refine .ret ⟨rfl,h,rfl,⟨z1,z2,z3,z4,z5,by simp only; omega,by simp at hres; simp only; omega,by simp at hwav; simp only; omega,⟨?_,?_,y1,y2,y3,y4⟩⟩⟩
  ·simp only[zd,zt,zK]; omega
  ·simp only[zd,zt,zK]; omega
end Go.Proofs.YtfdgemafaphpaaaGreat
