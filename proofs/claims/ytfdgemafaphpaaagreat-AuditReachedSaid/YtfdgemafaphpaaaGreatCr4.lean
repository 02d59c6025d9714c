/- Files: frames are written, lost in part, and read again. No condition. -/
import Derived.Test.YtfdgemafaphpaaaGreatWi9
import Derived.Test.YtfdgemafaphpaaaGreatSp12
namespace Go.Proofs.YtfdgemafaphpaaaGreat
open Go Go.Sq Wi
set_option linter.unusedVariables false
def frmB(b:List Int):List Int:=encZ (b.length:Int)++b
def fileB(bs:List (List Int)):List Int:=(bs.map frmB).flatten
theorem qoO(a b:List (List Int)):fileB (a++b)=fileB a++fileB b:=by unfold fileB; rw[zt1,List.flatten_append]
theorem qrP(b:List Int):fileB [b]=frmB b:=by unfold fileB; simp
theorem qwy(l:List Int)(h:l.length<=1000000):qbi l=some l:=by
 unfold qbi;rw[gd_t (qaj (by omega)),zD]
theorem qAx(ps:List (List Int))(h1:ps.length<=1000)(h:ps.flatten.length<=1000000):qge ps=some ps.flatten:=by
 unfold qge;have hle:∀i,(ps.take i).flatten.length<=ps.flatten.length:=fun i=>by
  conv=>rhs; rw[<-zh1 i ps,List.flatten_append,zd]
  omega
 have k1:=qaG (step:=fun x:Int×List Int=>qdS ps x.1 x.2) ps.length (fun i=>((i:Int),(ps.take i).flatten)) (e:=ps.flatten) (fun i hi=>by
  unfold qdS;simp only[dec_t (show(i:Int)<(ps.length:Int) by omega),zb,gd_t (inB_t hi),z8]
  have e:(ps.take (i+1)).flatten=(ps.take i).flatten++ps.getD i []:=by
   rw[zx1 hi,List.flatten_append,zh,zi hi]; simp
  have hn:=hle (i+1);rw[e,zd] at hn;rw[gd_t (qaj (by omega)),w1 hi (by omega),e]) (by
  unfold qdS;simp only[dec_f (show ¬(ps.length:Int)<(ps.length:Int) by omega),za,zk1])
 rw[show((((0:Nat):Int),(ps.take 0).flatten):Int×List Int)=(0,[]) from rfl] at k1
 rw[k1]; rfl
theorem qpg{b:List Int}(h:b.length<=4000) : -9223372036854775808<=(b.length:Int)/\(b.length:Int)<=9223372036854775807:=by omega
theorem qlK{b:List Int}(h:b.length<=4000):(frmB b).length<=4010/\b.length<(frmB b).length:=by
 have h1:=qmh (qpg h);have h2:0<(encZ (b.length:Int)).length:=qwv _;unfold frmB; rw[zd]; omega
theorem qAy{b:List Int}(h:b.length<=4000):qjO b=some (0,frmB b):=by
 unfold qjO;have h1:=qmh (qpg h);rw[dec_f (show ¬(4000:Int)<(b.length:Int) by omega),qAp (qpg h) (by simp),za,z7,gd_t (qaj (by simp; omega))]
 unfold frmB; simp
/-! ### Reading -/
theorem qAz:∀(f k v u p j:Nat) (b pre:List Int),f+k=10->p=pre.length->b=pre++(enc v).take j->j<(enc v).length->(rdI b p k u f).2.2≠0
 | 0,k,v,u,p,j,b,pre,hf,hp,e,hj=>by unfold rdI; simp
 | f+1,k,v,u,p,0,b,pre,hf,hp,e,hj=>by
  unfold rdI;rw[if_pos (by rw[e,hp]; simp)]; simp
 | f+1,k,v,u,p,j+1,b,pre,hf,hp,e,hj=>by
  by_cases h1:v<128
  ·rw[qrO h1] at hj; simp at hj
  ·rw[qsN (by omega)] at e hj
   rw[List.take_succ_cons] at e;obtain⟨g1,g2⟩:=bN_at hp e;unfold rdI;rw[if_neg g2,g1,if_pos (by omega)]
   exact qAz f (k+1) (v/128) _ (p+1) j b (pre++[((v%128+128:Nat):Int)]) (by omega) (by rw[hp]; simp) (by rw[e]; simp) (by simpa using hj)
theorem qCI{b pre post:List Int}{n:Int}(h : -9223372036854775808<=n/\n<=9223372036854775807)(e:b=pre++encZ n++post):rdI b pre.length 0 0 10=(n,((pre.length+(encZ n).length:Nat):Int),0):=by
 have:=qDz h e;unfold rdZ at this;rw[if_neg (by rw[e]; simp; omega),z8] at this
 exact this
def Torn(t:List Int):Prop:=∃b k,b.length<=4000/\qfF b/\k<(frmB b).length/\t=(frmB b).take k
theorem qxE:Torn []:=⟨[],0,by simp,fun x hx=>(by cases hx),(qlK (b:=[]) (by simp)).2,by simp⟩
theorem qDE{A:Type}(X b Y:List A){n m:Nat}(hn:n=X.length+b.length)(hm:m=X.length):((X++b++Y).take n).drop m=b:=by
 subst hn hm;rw[show X.length+b.length=(X++b).length by rw[zd],zv2,List.drop_left]
structure FilP(bs:List (List Int))(t:List Int):Prop where
 fb:∀x∈bs,x.length<=4000/\qfF x
 ft:Torn t
 n:(fileB bs++t).length<=1000000
theorem qvm{b:List Int}(h:qfF b):qfF (frmB b):=fun x hx=>(zy.1 hx).elim (qsO _ x) (h x)
theorem FilP.bytes{bs:List (List Int)}{t:List Int}(h:FilP bs t):qfF (fileB bs++t):=fun x hx=>by
 rcases zy.1 hx with hx | hx
 ·obtain⟨l,hl,hx⟩:=List.mem_flatten.1 hx;obtain⟨b,hb,rfl⟩:=zX.1 hl;exact qvm (h.fb b hb).2 x hx
 ·obtain⟨b,k,_,h2,_,rfl⟩:=h.ft;exact qvm h2 x (zB1 hx)
theorem qwz{bs:List (List Int)}{i:Nat}(hi:i<bs.length):fileB bs=fileB (bs.take i)++frmB (bs.getD i [])++fileB (bs.drop (i+1)):=by
 conv=>lhs; rw[<-zh1 i bs,zf1 hi]
 rw[show bs[i]::bs.drop (i+1)=[bs[i]]++bs.drop (i+1) from rfl,qoO,qoO,qrP,zz,zh,zi hi]; rfl
theorem qvn{bs:List (List Int)}{t:List Int}(h:FilP bs t){i:Nat}(hi:i<bs.length):(fileB (bs.take i)).length<(fileB bs++t).length/\(bs.getD i []).length<=4000∧
  rdI (fileB bs++t) (fileB (bs.take i)).length 0 0 10=(((bs.getD i []).length:Int),(((fileB (bs.take i)).length+(encZ ((bs.getD i []).length:Int)).length:Nat):Int),0)∧
  (fileB (bs.take i)).length+(encZ ((bs.getD i []).length:Int)).length+(bs.getD i []).length=(fileB (bs.take (i+1))).length/\(fileB (bs.take (i+1))).length<=(fileB bs++t).length∧
  ((fileB bs++t).take (fileB (bs.take (i+1))).length).drop ((fileB (bs.take i)).length+(encZ ((bs.getD i []).length:Int)).length)=bs.getD i []:=by
 have hb:=h.fb _ (gmem (d:=[]) hi);have hs:=qwz hi;have hf:=qlK hb.1;have hB:fileB bs++t=fileB (bs.take i)++encZ ((bs.getD i []).length:Int)++(bs.getD i []++(fileB (bs.drop (i+1))++t)):=by rw[hs]; unfold frmB; simp only[zz]
 have hn:fileB (bs.take (i+1))=fileB (bs.take i)++encZ ((bs.getD i []).length:Int)++bs.getD i []:=by
  rw[zx1 hi,qoO,qrP,zh,zi hi];unfold frmB; simp
 have hl:(fileB (bs.take (i+1))).length=(fileB (bs.take i)).length+(encZ ((bs.getD i []).length:Int)).length+(bs.getD i []).length:=by rw[hn,zd,zd]
 have hfl:(frmB (bs.getD i [])).length=(encZ ((bs.getD i []).length:Int)).length+(bs.getD i []).length:=by unfold frmB; rw[zd]
 refine⟨by rw[hB]; simp only[zd]; omega,hb.1,qCI (qpg hb.1) hB,by omega,by rw[hB,hn]; simp only[zd]; omega,?_⟩
 have hB2:fileB bs++t=(fileB (bs.take i)++encZ ((bs.getD i []).length:Int))++bs.getD i []++(fileB (bs.drop (i+1))++t):=by rw[hB]; simp only[zz]
 rw[hB2];exact qDE _ _ _ (by rw[hl,zd]) (by rw[zd])
theorem qxF{bs:List (List Int)}{t:List Int}(h:FilP bs t):(fileB bs++t).length<=(fileB bs).length\/((fileB bs).length<(fileB bs++t).length∧
  ((rdI (fileB bs++t) (fileB bs).length 0 0 10).2.2≠0\/∃(n q:Nat),rdI (fileB bs++t) (fileB bs).length 0 0 10=((n:Int),(q:Int),0)/\n<=4000/\q<=(fileB bs++t).length/\(fileB bs++t).length-q<n)):=by
 obtain⟨b,k,h1,h2,h3,rfl⟩:=h.ft;have hf:=qlK h1;by_cases hk:k=0
 ·subst hk; left; simp
 right;have hfl:(frmB b).length=(encZ (b.length:Int)).length+b.length:=by unfold frmB; rw[zd]
 refine⟨by rw[zd,zk]; omega,?_⟩
 by_cases hc:k<(encZ (b.length:Int)).length
 ·left;refine qAz 10 0 (zg (b.length:Int)) 0 _ k _ (fileB bs) rfl rfl ?_ hc
  unfold frmB;rw[zW (by omega)]; rfl
 ·right;have e:(frmB b).take k=encZ (b.length:Int)++b.take (k-(encZ (b.length:Int)).length):=by
   unfold frmB;rw[zJ2,zr (by omega)]
  refine⟨b.length,(fileB bs).length+(encZ (b.length:Int)).length,qCI (post:=b.take (k-(encZ (b.length:Int)).length)) (qpg h1) (by rw[e,zz]),h1,?_,?_⟩
  ·rw[zd,zk]; omega
  ·rw[zd,zk]; omega
theorem qDF{bs:List (List Int)}{t:List Int}(h:FilP bs t):qih (fileB bs++t)=some (((fileB bs).length:Int),bs):=by
 unfold qih;have hbn:bs.length<=1000000:=by
  have h1:bs.length<=(fileB bs).length:=by
   have:∀l:List (List Int),(∀x∈l,x.length<=4000)->l.length<=(fileB l).length:=by
    intro l;induction l with
    | nil=>intro _; simp
    | cons x r ih=>
     intro hx;have:=ih fun y hy=>hx y (zT _ hy)
     have h2:=(qlK (hx x zQ1)).2;show r.length+1<=(frmB x++fileB r).length;rw[zd]; omega
   exact this bs fun x hx=>(h.fb x hx).1
  have:=h.n;rw[zd] at this; omega
 have hB:=h.bytes;have hN:=h.n;have k1:=qaG (step:=fun x:Int×List (List Int)=>qcT (fileB bs++t) x.1 x.2) bs.length (fun i=>(((fileB (bs.take i)).length:Int),bs.take i)) (e:=(((fileB bs).length:Int),bs)) (fun i hi=>by
  obtain⟨g1,g2,g3,g4,g5,g6⟩:=qvn h hi;show qcT (fileB bs++t) ((fileB (bs.take i)).length:Int) (bs.take i)=_;unfold qcT;rw[dec_t (show((fileB (bs.take i)).length:Int)<((fileB bs++t).length:Int) by omega),zb,qwx hB hN (by omega),g3,z7]
  simp only[ze1,ze,za];rw[dec_f (show ¬((bs.getD i []).length:Int)<0 by omega),dec_f (show ¬(4000:Int)<((bs.getD i []).length:Int) by omega)]
  simp only[za,z7];rw[wi (by omega),dec_f (by omega),za,wi (by omega)]
  rw[show(((fileB (bs.take i)).length+(encZ ((bs.getD i []).length:Int)).length:Nat):Int)+((bs.getD i []).length:Int)=((fileB (bs.take (i+1))).length:Int) by omega,gd_t (inR_t (by omega) g5),z8,z8,g6,qwy _ (by omega),z7,gd_t (qaj (by rw[zk]; omega))]
  rw[zx1 hi,zh,zi hi]; rfl) (by
  show qcT (fileB bs++t) ((fileB (bs.take bs.length)).length:Int) (bs.take bs.length)=_;rw[zk1];unfold qcT;rcases qxF h with h1 | ⟨h1,h2⟩
  ·rw[dec_f (by omega)]; rfl
  rw[dec_t (by omega),zb,qwx hB hN (by omega),z7]
  rcases h2 with h2 | ⟨n,q,h2,h3,h4,h5⟩
  ·rw[dec_f h2]; rfl
  ·rw[h2];simp only[ze1,ze,za];rw[dec_f (show ¬(n:Int)<0 by omega),dec_f (show ¬(4000:Int)<(n:Int) by omega)]
   simp only[za,z7];rw[wi (by omega),dec_t (by omega)]; rfl)
 refine(congrArg (fun o=>Option.bind o _) k1).trans ?_
 rfl
theorem qBY{bs:List (List Int)}{t:List Int}(h:FilP bs t):ql2 (fileB bs++t)=some (((fileB bs).length:Int),bs):=by
 unfold ql2;have hbn:bs.length<=1000000:=by
  have h1:bs.length<=(fileB bs).length:=by
   have:∀l:List (List Int),(∀x∈l,x.length<=4000)->l.length<=(fileB l).length:=by
    intro l;induction l with
    | nil=>intro _; simp
    | cons x r ih=>
     intro hx;have:=ih fun y hy=>hx y (zT _ hy)
     have h2:=(qlK (hx x zQ1)).2;show r.length+1<=(frmB x++fileB r).length;rw[zd]; omega
   exact this bs fun x hx=>(h.fb x hx).1
  have:=h.n;rw[zd] at this; omega
 have hB:=h.bytes;have hN:=h.n;have k1:=qaG (step:=fun x:Int×List (List Int)=>qdR (fileB bs++t) x.1 x.2) bs.length (fun i=>(((fileB (bs.take i)).length:Int),bs.take i)) (e:=(((fileB bs).length:Int),bs)) (fun i hi=>by
  obtain⟨g1,g2,g3,g4,g5,g6⟩:=qvn h hi;show qdR (fileB bs++t) ((fileB (bs.take i)).length:Int) (bs.take i)=_;unfold qdR;rw[dec_t (show((fileB (bs.take i)).length:Int)<((fileB bs++t).length:Int) by omega),zb,qAr hB hN (by omega),g3,z7]
  simp only[ze1,ze,za];rw[dec_f (show ¬((bs.getD i []).length:Int)<0 by omega),dec_f (show ¬(4000:Int)<((bs.getD i []).length:Int) by omega)]
  simp only[za,z7];rw[wi (by omega),dec_f (by omega),za,wi (by omega)]
  rw[show(((fileB (bs.take i)).length+(encZ ((bs.getD i []).length:Int)).length:Nat):Int)+((bs.getD i []).length:Int)=((fileB (bs.take (i+1))).length:Int) by omega,gd_t (inR_t (by omega) g5),z8,z8,g6,gd_t (qaj (by omega)),gd_t (qaj (by rw[zk]; omega))]
  rw[zx1 hi,zh,zi hi]; rfl) (by
  show qdR (fileB bs++t) ((fileB (bs.take bs.length)).length:Int) (bs.take bs.length)=_;rw[zk1];unfold qdR;rcases qxF h with h1 | ⟨h1,h2⟩
  ·rw[dec_f (by omega)]; rfl
  rw[dec_t (by omega),zb,qAr hB hN (by omega),z7]
  rcases h2 with h2 | ⟨n,q,h2,h3,h4,h5⟩
  ·rw[dec_f h2]; rfl
  ·rw[h2];simp only[ze1,ze,za];rw[dec_f (show ¬(n:Int)<0 by omega),dec_f (show ¬(4000:Int)<(n:Int) by omega)]
   simp only[za,z7];rw[wi (by omega),dec_t (by omega)]; rfl)
 refine(congrArg (fun o=>Option.bind o _) k1).trans ?_
 rfl
/-! ### Writing -/
theorem qyl{bs:List (List Int)}(h:FilP bs []){b:List Int}(hb:b.length<=4000)(hn:(fileB bs).length+(frmB b).length<=65536):qic (fileB bs,[]) b=some ((fileB bs,frmB b),0):=by
 unfold qic;have hr:=qBY h;rw[z81] at hr;rw[qAy hb,z7];simp only[ze1,ze,za];rw[hr,z7];simp only[ze1,ze,za];have hf:=qlK hb;have e1:wi64 ((fileB bs).length+(([]:List Int).length:Int))=((fileB bs).length:Int):=by rw[wi (by simp; omega)]; simp
 rw[e1,wi (by omega),dec_f (by omega),za,gd_t (qaj (by omega)),gd_t (qaj (by simp)),gd_t (qaj (by simp; omega))]
 simp
theorem qAA{F p:List Int}(h:F.length+p.length<=1000000){k:Nat}(hk:k<=p.length):qjP (F,p) (k:Int)=some (F++p.take k,[]):=by
 unfold qjP;simp only;rw[show max (0:Int) (min (k:Int) (p.length:Int))=(k:Int) by omega,gd_t (qaj (by omega)),gd_t (by unfold cutG; simp; omega),z8,gd_t (qaj (by simp; omega))]
 simp
theorem qBZ{F p:List Int}(h:F.length+p.length<=1000000):ql3 (F,p)=some (F++p,[]):=by
 unfold ql3;rw[qAA h (zM _),zk1]; rfl
theorem qym{bs:List (List Int)}{t:List Int}(h:FilP bs t):qfq (fileB bs++t,[])=some ((fileB bs,[]),bs):=by
 unfold qfq;have hN:=h.n;rw[zd] at hN;rw[qDF h,z7];simp only;rw[gd_t (by unfold cutG; simp; omega),z8,zW (zM _),zk1,qAx _ (by simp) (by simp; omega)]
 simp
end Go.Proofs.YtfdgemafaphpaaaGreat
namespace Go.Proofs.YtfdgemafaphpaaaGreat
open Go Go.Sq Wi
set_option linter.unusedVariables false
def I64(x:Int):Prop:=-9223372036854775808<=x/\x<=9223372036854775807
theorem i64_s{x:Int}(h : -1000000000000000000<=x/\x<=1000000000000000000):I64 x:=by unfold I64; omega
structure EncP(r:Rec):Prop where
 hr:i64A (recL r)
 hh:∀x∈hps r,-9223372036854775808<=x.1/\x.1<=9223372036854775807
 nb:¬big r
theorem qAB{r:Rec}(h1:I64 r.1)(h2:i64A r.2.1)(h3:r.2.1.length<=21)(h4:I64 r.2.2.1.1)(h5:I64 r.2.2.1.2.1)(h6:I64 r.2.2.1.2.2.1)(h7:I64 r.2.2.1.2.2.2.1)(h8:I64 r.2.2.1.2.2.2.2.1)
  (h9:∀x∈r.2.2.1.2.2.2.2.2.1,I64 x.1) (h10:r.2.2.1.2.2.2.2.2.1.length<=32) (h11:I64 r.2.2.1.2.2.2.2.2.2) (h12:I64 r.2.2.2.2.1) (h13:I64 r.2.2.2.2.2) (h14:r.2.2.2.1.length<=12):EncP r:=by
 refine⟨?_,h9,?_⟩
 ·unfold recL;refine qiv.2 ⟨?_,qiv.2 ⟨h2,qiv.2 ⟨?_,qiv.2 ⟨qBX h9,?_⟩⟩⟩⟩
  ·intro x hx;simp only[recA,zE,z33,or_false] at hx;rcases hx with rfl | rfl
   ·exact h1
   ·omega
  ·intro x hx;simp only[recB,zE,z33,or_false] at hx;rcases hx with rfl | rfl | rfl | rfl | rfl | rfl
   ·exact h4
   ·exact h5
   ·exact h6
   ·exact h7
   ·exact h8
   ·have e:(hps r).length=r.2.2.1.2.2.2.2.2.1.length:=rfl;omega
  ·intro x hx;simp only[recC,zE,z33,or_false] at hx;rcases hx with rfl | rfl | rfl | rfl
   ·exact h11
   ·exact h12
   ·exact h13
   ·have e:(shp r).length=r.2.2.2.1.length:=rfl;omega
 ·unfold big;show ¬((21:Int)<(r.2.1.length:Int)\/(32:Int)<((r.2.2.1.2.2.2.2.2.1.length:Nat):Int)\/(12:Int)<((r.2.2.2.1.length:Nat):Int));omega
theorem z64{x:Int}(h:x=0):I64 x:=by subst h; unfold I64; omega
theorem qCJ{s:Stp}(h:noB s=true):s.1=0/\s.2.1=0/\s.2.2.1=0/\s.2.2.2.1=0/\s.2.2.2.2.1=0/\s.2.2.2.2.2.2=0/\s.2.2.2.2.2.1=[]:=by
 unfold noB at h;simp only[z9,zo] at h;obtain⟨a,b,c,d,e,f,g⟩:=h;exact⟨a,b,c,d,e,f,zU g⟩
theorem qCK{e:Ent3}(h:noE e=true):e.1=[]/\e.2.1=0/\e.2.2=0:=by
 unfold noE at h;simpa only[z9,zo] using h
theorem rg_of{lo hi x:Int}(h:rg lo hi x=true):lo<=x/\x<=hi:=by
 unfold rg at h;simpa only[z9,zo] using h
theorem qB0{v:List Int}(h5:¬v.length<5)(h:qe9 (telOf v)=true):i64A v/\v.length<=21:=by
 unfold qe9 telOf at h;simp only[z9,zo,zY] at h;obtain⟨⟨g0,g1,g2,g3,g4⟩,g5,g6⟩:=h;have g0:=rg_of g0; have g1:=rg_of g1; have g2:=rg_of g2; have g3:=rg_of g3; have g4:=rg_of g4;refine⟨fun x hx=>?_,by omega⟩
 obtain⟨i,hi,rfl⟩:=List.getElem_of_mem hx;have hg:∀j,j<v.length->v.getD j 0=v[j]!:=fun j hj=>by rw[zh,zi hj,List.getElem!_eq_getElem?_getD,zi hj]; rfl
 have hgi:v[i]=v.getD i 0:=by rw[zh,zi hi]; rfl
 by_cases hi5:i<5
 ·rw[hgi]
  match i,hi5 with
  | 0,_=>omega
  | 1,_=>omega
  | 2,_=>omega
  | 3,_=>omega
  | 4,_=>omega
 ·have hm:v[i]∈v.drop 5:=by
   rw[List.mem_iff_getElem?];exact⟨i-5,by rw[zC,show 5+(i-5)=i by omega,zi hi]⟩
  have:=zx.1 g6 _ hm;have:=rg_of (show rg _ _ _=true from this)
  omega
theorem qDG{x:Pth}(h:bareP x=true):x.1=0/\x.2.1=0/\x.2.2.1=[]/\x.2.2.2=0:=by
 unfold bareP at h;simp only[z9,zo] at h;obtain⟨a,b,c,d⟩:=h;exact⟨a,b,zU (by omega),d⟩
theorem qB1{n:Net}(hn:GN n){d:Dk}(hd:DkN n d){s:Stp}(h:(appS n d s).2=0):I64 s.1/\I64 s.2.1/\I64 s.2.2.1/\I64 s.2.2.2.1/\I64 s.2.2.2.2.1/\(∀x∈s.2.2.2.2.2.1,I64 x.1)/\s.2.2.2.2.2.1.length<=32/\I64 s.2.2.2.2.2.2:=by
 obtain⟨hv,e⟩:=qCD h;rw[e] at h;have h1:=hn.sg; have h2:=hn.po; have h3:=hn.st; have h4:=hd.v;obtain⟨hb,hc⟩:=qsM h;have bare:∀ {x:Pth},bareP x=true->I64 x.1/\I64 x.2.1/\(∀y∈x.2.2.1,I64 y.1)/\x.2.2.1.length<=32/\I64 x.2.2.2:=fun{x} hx=>by
  obtain⟨a,b,c,d⟩:=qDG hx;exact⟨z64 a,z64 b,(by rw[c]; intro y hy; cases hy),(by rw[c]; simp),z64 d⟩
 unfold qjm at hb;rcases hc with⟨hk,he⟩ | ⟨hk,he⟩ | ⟨hk,he⟩ | ⟨hk,he⟩
 ·have hk':(decide (s.1=1) || (decide (s.1=2) || (decide (s.1=3) || decide (s.1=4))))=true:=by rcases hk with hk | hk <;> simp[hk]
  rw[hk',zb,z9,zo] at hb;obtain⟨b1,b2,b3,b4,b5⟩:=bare hb.2;rw[he] at h;unfold turnS at h;cases hr:(decide (0<=s.2.1)&&decide (s.2.1<(d.1.length:Int))) with
  | false=>rw[hr] at h; cases h
  | true=>
   simp only[z9,zo] at hr;exact⟨i64_s (by omega),i64_s (by omega),z64 hb.1,b1,b2,b3,b4,b5⟩
 ·have hk':(decide (s.1=1) || (decide (s.1=2) || (decide (s.1=3) || decide (s.1=4))))=true:=by rcases hk with hk | hk <;> simp[hk]
  rw[hk',zb,z9,zo] at hb;obtain⟨b1,b2,b3,b4,b5⟩:=bare hb.2;rw[he] at h;unfold runS at h;cases hr:(decide (0<=s.2.1)&&decide (s.2.1<(n.2.2.2.1.length:Int))) with
  | false=>rw[hr] at h; cases h
  | true=>
   simp only[z9,zo] at hr;exact⟨i64_s (by omega),i64_s (by omega),z64 hb.1,b1,b2,b3,b4,b5⟩
 ·have hk':(decide (s.1=1) || (decide (s.1=2) || (decide (s.1=3) || decide (s.1=4))))=false:=by simp[hk]
  rw[hk',za,zb1 hk,zb,z9,zo,zo] at hb;rw[he] at h;obtain⟨hg,_⟩:=qCC h;have hp:=VPa.of hg.pa;have hi:=hp.i; have ho:=hp.o; have hl:=hp.hl; have hh:=hp.h; have hv:=hg.v;simp only[absP] at hi ho hl hh;exact⟨i64_s (by omega),z64 hb.1,i64_s (by omega),i64_s (by omega),i64_s (by omega),fun x hx=>i64_s (by have:=hh x hx; omega),hl,z64 hb.2⟩
 ·have hk':(decide (s.1=1) || (decide (s.1=2) || (decide (s.1=3) || decide (s.1=4))))=false:=by simp[hk]
  rw[hk',za,zo2 (by omega),za,zb1 hk,zb,z9,zo] at hb
  obtain⟨b1,b2,b3,b4,b5⟩:=bare hb.2;rw[he] at h;unfold waitS at h;cases hr:rg 1 100 s.2.2.1 with
  | false=>rw[hr] at h; cases h
  | true=>have:=rg_of hr; exact⟨i64_s (by omega),z64 hb.1,i64_s (by omega),b1,b2,b3,b4,b5⟩
theorem qDH{l:List Acc4}(hl:l.length<=100000){e:Ent3}(h:(Ac.postF l e).2=0):I64 e.2.1/\I64 e.2.2/\e.1.length<=12:=by
 obtain⟨_,_,hp⟩:=Ac.post_eq (l:=l) (e:=e) hl;have he:Ac.entP e=true:=by
  cases hc:Ac.entP e with
  | true=>rfl
  | false=>
   have:=hp.bad (fun hh=>by rw[hc] at hh; cases hh.2)
   rw[this] at h; cases h
 unfold Ac.entP Ac.volP Ac.sgnP at he;simp only[z9,zo1,zo] at he;obtain⟨h1,h2⟩:=he;unfold Ac.nameP at h2;simp only[z9,zo] at h2;refine⟨i64_s ?_,i64_s ?_,h2.2.1⟩
 ·rcases h1 with⟨h1,_⟩ | ⟨h1,_⟩ <;> omega
 ·rcases h1 with⟨_,h1⟩ | ⟨_,h1⟩ <;> omega
theorem qCL{n:Net}(hn:GN n){c:Cn}{k:Nat}(hi:CnI n c k)(hk:k<=10000){r:Rec}(h:(capp n c r).2=0):EncP r:=by
 unfold capp at h;by_cases k1:r.1=1
 ·rw[if_pos k1] at h;unfold capp1 at h;by_cases h1:c.2.2.2=1000
  ·rw[if_pos h1] at h; cases h
  rw[if_neg h1] at h;have h2:(accS c.2.1 r).2=0:=by
   by_cases h2:(accS c.2.1 r).2=0
   ·exact h2
   ·rw[if_neg h2] at h; exact absurd h h2
  unfold accS at h2;by_cases h3:r.2.1.length<5\/noB r.2.2.1=false\/noE r.2.2.2=false\/qe9 (telOf r.2.1)=false
  ·rw[if_pos h3] at h2; cases h2
  simp only[not_or,zZ2] at h3;obtain⟨g1,g2,g3,g4⟩:=h3;obtain⟨a1,a2,a3,a4,a5,a6,a7⟩:=qCJ g2;obtain⟨b1,b2,b3⟩:=qCK g3;obtain⟨c1,c2⟩:=qB0 g1 g4;exact qAB (i64_s (by omega)) c1 c2 (z64 a1) (z64 a2) (z64 a3) (z64 a4) (z64 a5) (by rw[a7]; intro y hy; cases hy) (by rw[a7]; simp) (z64 a6) (z64 b2) (z64 b3) (by rw[b1]; simp)
 rw[if_neg k1] at h;by_cases k2:r.1=2
 ·rw[if_pos k2] at h;unfold capp2 at h;by_cases h1:c.2.2.2=1000
  ·rw[if_pos h1] at h; cases h
  rw[if_neg h1] at h;have h2:(cmdS n c.1 r).2=0:=by
   by_cases h2:(cmdS n c.1 r).2=0
   ·exact h2
   ·rw[if_neg h2] at h; exact absurd h h2
  unfold cmdS at h2;by_cases h3:0<r.2.1.length\/noE r.2.2.2=false
  ·rw[if_pos h3] at h2; cases h2
  rw[if_neg h3] at h2;simp only[not_or,zZ2] at h3;obtain⟨b1,b2,b3⟩:=qCK h3.2;have e0:r.2.1=[]:=zU (by omega)
  obtain⟨s1,s2,s3,s4,s5,s6,s7,s8⟩:=qB1 hn hi.d h2;exact qAB (i64_s (by omega)) (by rw[e0]; intro y hy; cases hy) (by rw[e0]; simp) s1 s2 s3 s4 s5 s6 s7 s8 (z64 b2) (z64 b3) (by rw[b1]; simp)
 rw[if_neg k2] at h;by_cases k3:r.1=3
 ·rw[if_pos k3] at h;unfold capp3 at h;by_cases h1:c.2.2.2=1000
  ·rw[if_pos h1] at h; cases h
  rw[if_neg h1] at h;have h2:(postS c.2.2.1 r).2=0:=by
   by_cases h2:(postS c.2.2.1 r).2=0
   ·exact h2
   ·rw[if_neg h2] at h; exact absurd h h2
  unfold postS at h2;by_cases h3:0<r.2.1.length\/noB r.2.2.1=false
  ·rw[if_pos h3] at h2; cases h2
  rw[if_neg h3] at h2;simp only[not_or,zZ2] at h3;obtain⟨a1,a2,a3,a4,a5,a6,a7⟩:=qCJ h3.2;have e0:r.2.1=[]:=zU (by omega)
  obtain⟨s1,s2,s3⟩:=qDH (by have:=hi.a; omega) h2
  exact qAB (i64_s (by omega)) (by rw[e0]; intro y hy; cases hy) (by rw[e0]; simp) (z64 a1) (z64 a2) (z64 a3) (z64 a4) (z64 a5) (by rw[a7]; intro y hy; cases hy) (by rw[a7]; simp) (z64 a6) s1 s2 s3
 ·rw[if_neg k3] at h;exfalso;revert h;simp only;split <;> simp
def bts(r:Rec):List Int:=encs (recL r)++qeR (shp r)
theorem qt2{r:Rec}(h:EncP r):(bts r).length<=1500/\qfF (bts r):=by
 have h1:=qt0 h.hr;have hb:=h.nb;unfold big at hb;simp only[not_or] at hb;have h2:(recL r).length=2+(r.2.1.length+(6+(2*(hps r).length+4))):=by
  unfold recL recA recB recC;simp[qt1];omega
 have h3:(qeR (shp r)).length=(shp r).length:=qvO _;refine⟨?_,fun x hx=>?_⟩
 ·unfold bts; rw[zd]; omega
 ·rcases zy.1 hx with hx | hx
  ·exact qsP x hx
  ·obtain⟨b,_,rfl⟩:=zX.1 hx;have:=b.toNat_lt;omega
theorem qEt{r:Rec}(h:EncP r):qfs (bts r)=some (r,0):=by
 obtain⟨h1,h2⟩:=qt2 h;rw[wdec h2 (by omega)]
 exact congrArg some (qDD h.hr h.hh h.nb)
end Go.Proofs.YtfdgemafaphpaaaGreat
namespace Go.Proofs.YtfdgemafaphpaaaGreat
open Go Go.Sq Wi
set_option linter.unusedVariables false
/-! ### The idle desk -/
theorem rep0(k i:Nat):(List.replicate k (0:Int)).getD i 0=0:=by
 rw[zh,zA2]; split <;> rfl
theorem repF(k i:Nat):(List.replicate k false).getD i false=false:=by
 rw[zh,zA2]; split <;> rfl
section
variable {n:Net} {a b c:Nat}
abbrev zP(a b c:Nat):Pl:=(List.replicate a 0,List.replicate b 0,List.replicate c false)
theorem qvo:∀(f j:Nat),j+f=n.1.length->(topo n (zP a b c) f (List.replicate j true++List.replicate f false)).length=f
 | 0,_,_=>rfl
 | f+1,j,h=>by
  unfold topo;have hfree:∀k,freeB n (zP a b c) (List.replicate j true++List.replicate (f+1) false) k=!(List.replicate j true++List.replicate (f+1) false).getD k false:=fun k=>by
   unfold freeB;have:(List.range n.2.1.length).any (blk n (zP a b c) (List.replicate j true++List.replicate (f+1) false) k)=false:=by
    rw[zc2];intro i _;unfold blk rate;rw[rep0,zb1 rfl]; simp
   rw[this]; simp
  have hnext:nextF n (zP a b c) (List.replicate j true++List.replicate (f+1) false)=some j:=by
   unfold nextF;rw[List.find?_range_eq_some]
   refine⟨?_,?_,fun i hi=>?_⟩
   ·rw[hfree,zh,zL (by simp)]; simp
   ·rw[zO]; omega
   ·rw[hfree,zh,zQ (by simp; omega),zA2,if_pos hi]; rfl
  rw[hnext];have hset:(List.replicate j true++List.replicate (f+1) false).set j true=List.replicate (j+1) true++List.replicate f false:=by
   rw[List.set_append_right _ _ (by simp)]
   simp only[z52,zU2,List.replicate_succ,List.set_cons_zero];rw[<-List.replicate_succ,List.replicate_succ' (n:=j),zz]; rfl
  simp only[hset,zt];rw[qvo f (j+1) (by omega)]
theorem qAC(h0:qcc n=0):qa4 n (zP n.2.1.length n.2.2.1.length n.2.2.2.1.length)=0:=by
 have hn:=VNet.of h0;unfold qa4;rw[if_neg (fun e=>e h0)]
 have h1:szB n (zP n.2.1.length n.2.2.1.length n.2.2.2.1.length)=true:=qpd.2 ⟨by simp,by simp,by simp⟩
 have h2:qm1 n (zP n.2.1.length n.2.2.1.length n.2.2.2.1.length)=true:=by
  unfold qm1;rw[zx];intro i hi;have:=qtS hn (zO.1 hi);unfold rtB rate;rw[rep0];exact qkz.2 ⟨by omega,by omega⟩
 have h3:qiO (zP n.2.1.length n.2.2.1.length n.2.2.2.1.length)=true:=by
  unfold qiO;rw[zx];intro x hx;rw[List.eq_of_mem_replicate hx]; rfl
 have h4:balB n (zP n.2.1.length n.2.2.1.length n.2.2.2.1.length)=true:=by
  unfold balB;rw[zx];intro k _;refine zb1 ?_
  have z1:comeF n (zP n.2.1.length n.2.2.1.length n.2.2.2.1.length) (k:Int)=0:=by
   unfold comeF;rw[qdY _ fun i _=>?_,qdY _ fun i _=>?_]; rfl
   ·unfold qgT prate; rw[rep0]; split <;> rfl
   ·unfold segIn rate amt; rw[rep0]; split <;> rfl
  have z2:qjl n (zP n.2.1.length n.2.2.1.length n.2.2.2.1.length) (k:Int)=0:=by
   unfold qjl;rw[qdY _ fun i _=>?_,qdY _ fun i _=>?_]; rfl
   ·unfold qd6 prate; rw[rep0]; split <;> rfl
   ·unfold qcd rate amt; rw[rep0]; split <;> rfl
  rw[z1,z2]
 have h5:(ordL n (zP n.2.1.length n.2.2.1.length n.2.2.2.1.length)).length=n.1.length:=by
  unfold ordL;exact qvo n.1.length 0 (by omega)
 rw[h1,h2,h3,h4,h5];simp
theorem qAD(h0:qcc n=0){t:Int}(ht:1<=t/\t<=60):qc7 n (List.replicate (n.2.1.length+n.2.2.1.length) (t,0,false,false),zP n.2.1.length n.2.2.1.length n.2.2.2.1.length)=0:=by
 unfold qc7;rw[if_neg (fun e=>e h0),if_neg (fun e=>e (qAC h0))]
 have h1:vlB n (List.replicate (n.2.1.length+n.2.2.1.length) (t,0,false,false))=true:=by
  unfold vlB;rw[zb1 (by simp),zF,zx]
  intro x hx;rw[List.eq_of_mem_replicate hx];unfold qcp;rw[rg_t ht,show rg 0 t 0=true from rg_t ⟨by omega,by omega⟩]; rfl
 have h2:rdyB (List.replicate (n.2.1.length+n.2.2.1.length) (t,0,false,false),zP n.2.1.length n.2.2.1.length n.2.2.2.1.length)=true:=by
  unfold rdyB need nz;simp only[List.map_replicate,ze1,ze];rw[List.replicate_append_replicate,zx];intro i _;rw[repF]; rfl
 have h3:idleB n (zP n.2.1.length n.2.2.1.length n.2.2.2.1.length)=false:=by
  unfold idleB;rw[zc2];intro i _;unfold qkA;rw[repF]; simp
 rw[h1,h2,h3]; rfl
end
/-! ### Comparing is always possible -/
noncomputable def foldC(n:Net):Cn->List Rec->Cn
 | c,[]=>c
 | c,r::l=>foldC n (capp n c r).1 l
structure Hist(n:Net)(c0:Cn)(rs:List Rec)(c:Cn):Prop where
 fin:foldC n c0 rs=c
 ok:∀i,i<rs.length->(capp n (foldC n c0 (rs.take i)) (rs.getD i (0,[],(0,0,0,0,0,[],0),[],0,0))).2=0
 enc:∀r∈rs,EncP r
 inv:∀i,i<=rs.length->CnI n (foldC n c0 (rs.take i)) i
abbrev r0:Rec:=(0,[],(0,0,0,0,0,[],0),[],0,0)
theorem qmi(n:Net)(r:Rec):∀(l:List Rec) (c:Cn),foldC n c (l++[r])=(capp n (foldC n c l) r).1
 | [],c=>rfl
 | x::l,c=>by
  show foldC n (capp n c x).1 (l++[r])=_;rw[qmi n r l]; rfl
theorem qyn(n:Net)(c:Cn){rs:List Rec}{i:Nat}(hi:i<rs.length):foldC n c (rs.take (i+1))=(capp n (foldC n c (rs.take i)) (rs.getD i r0)).1:=by
 rw[zx1 hi,qmi,zh,zi hi]; rfl
theorem qCM{r:Rec}(h:EncP r):r.2.1.length<=21/\(hps r).length<=32:=by
 have:=h.nb;unfold big at this;omega
theorem Hist.put{n:Net}(hn:GN n){c0 c:Cn}{rs:List Rec}(h:Hist n c0 rs c)(hl:rs.length<=100){r:Rec}(h0:(capp n c r).2=0):Hist n c0 (rs++[r]) (capp n c r).1:=by
 have hi:=h.inv rs.length (zM _);rw[zk1,h.fin] at hi;have he:=qCL hn hi (by omega) h0
 have hv:=qCM he;have hr:RecP r:=⟨by omega,by have:(hps r).length=r.2.2.1.2.2.2.2.2.1.length:=rfl; omega⟩
 refine⟨by rw[qmi,h.fin],fun i hlt=>?_,fun x hx=>?_,fun i hle=>?_⟩
 ·rw[zd,zV1] at hlt;by_cases hc:i<rs.length
  ·rw[zW (by omega),zh,zQ hc,<-zh]
   exact h.ok i hc
  ·obtain rfl:i=rs.length:=by omega
   rw[zW (zM _),zk1,h.fin,zh,zL (zM _)];simpa using h0
 ·rcases zy.1 hx with hx | hx
  ·exact h.enc x hx
  ·rw[zI.1 hx]; exact he
 ·rw[zd,zV1] at hle;by_cases hc:i<=rs.length
  ·rw[zW hc]; exact h.inv i hc
  ·obtain rfl:i=rs.length+1:=by omega
   rw[zr (by simp),qmi,h.fin]
   exact(qwu hi (by omega) hr h0).1
theorem files{rs:List Rec}(he:∀r∈rs,EncP r)(hl:rs.length<=30){t:List Int}(ht:Torn t):FilP (rs.map bts) t/\(fileB (rs.map bts)).length<=1510*rs.length:=by
 have h1:(fileB (rs.map bts)).length<=1510*rs.length:=by
  clear hl ht;induction rs with
  | nil=>simp[fileB]
  | cons r l ih=>
   have h2:=qt2 (he r zQ1);have h3:=qmh (qpg (b:=bts r) (by omega))
   have h4:=ih fun x hx=>he x (zT _ hx)
   show(frmB (bts r)++fileB (l.map bts)).length<=_;rw[zd];unfold frmB;rw[zd,zt];omega
 refine⟨⟨fun x hx=>?_,ht,?_⟩,h1⟩
 ·obtain⟨r,hr,rfl⟩:=zX.1 hx;have:=qt2 (he r hr);exact⟨by omega,this.2⟩
 ·obtain⟨b,k,hb,_,hk,rfl⟩:=ht;have:=qlK hb;rw[zd,zk]; omega
theorem qyo{n:Net}(hn:GN n){c0 c:Cn}{rs:List Rec}{t:Int}(hnew:qfR n t=some (c0,0))(h:Hist n c0 rs c)(hl:rs.length<=30){tl:List Int}(ht:Torn tl):
  qgh n t (fileB (rs.map bts)++tl,[])=some ((fileB (rs.map bts),[]),c,0):=by
 obtain⟨hf,hfl⟩:=files h.enc hl ht;have hN:=hf.n;unfold qgh;simp only;rw[qwy _ (by omega),z7,qwy _ (by simp),z7,qaR,hnew,z7]
 simp only[ze1,ze,za];rw[qym hf,z7];simp only;generalize hB:fileB (rs.map bts)++tl=B;have key:=qaG (step:=fun x:Int×List Int×List Int×List Vl×List Int×List Int×List Bool×List Tel×List Acc4×Int×List Vl×List Int×List Int×List Bool×List Tel×List Acc4×Int×List (List Int)=>qdW n B [] ((fileB (rs.map bts),[]),rs.map bts) x.1 x.2.1 x.2.2.1 x.2.2.2.1 x.2.2.2.2.1 x.2.2.2.2.2.1 x.2.2.2.2.2.2.1 x.2.2.2.2.2.2.2.1 x.2.2.2.2.2.2.2.2.1 x.2.2.2.2.2.2.2.2.2.1 x.2.2.2.2.2.2.2.2.2.2.1 x.2.2.2.2.2.2.2.2.2.2.2.1 x.2.2.2.2.2.2.2.2.2.2.2.2.1 x.2.2.2.2.2.2.2.2.2.2.2.2.2.1 x.2.2.2.2.2.2.2.2.2.2.2.2.2.2.1 x.2.2.2.2.2.2.2.2.2.2.2.2.2.2.2.1 x.2.2.2.2.2.2.2.2.2.2.2.2.2.2.2.2.1 x.2.2.2.2.2.2.2.2.2.2.2.2.2.2.2.2.2)
  rs.length (fun i=>((i:Int),[],[],[],[],[],[],[],[],0,(foldC n c0 (rs.take i)).1.1,(foldC n c0 (rs.take i)).1.2.1,(foldC n c0 (rs.take i)).1.2.2.1,(foldC n c0 (rs.take i)).1.2.2.2,(foldC n c0 (rs.take i)).2.1,(foldC n c0 (rs.take i)).2.2.1,(foldC n c0 (rs.take i)).2.2.2,rs.map bts))
  (e:=.inl ([],[],[],[],[],[],[],[],0,c.1.1,c.1.2.1,c.1.2.2.1,c.1.2.2.2,c.2.1,c.2.2.1,c.2.2.2)) (fun i hi=>by
   have hI:=h.inv i (by omega)
   have hcs:=hI.cns hn (by omega)
   have hn0:=hI.n0; have hn1:=hI.n1;have hm:rs.getD i r0∈rs:=gmem hi;have he:=h.enc _ hm;have hk:=h.ok i hi;have hv:=qCM he;unfold qdW;simp only[z91,z8];rw[dec_t (show(i:Int)<(rs.length:Int) by omega),zb,gd_t (inB_t (by omega))]
   have hg:(rs.map bts).getD i []=bts (rs.getD i r0):=by
    rw[zh,zG,zh,zi hi]; rfl
   rw[hg,qEt he,z7];simp only[ze1,ze,za];rw[qaR];generalize hr:rs.getD i r0=r at*
   refine(congrArg (fun o=>Option.bind o _) (apply_eq' n hcs hI.srt (by omega) r (by omega))).trans ?_
   rw[z7,dec_t hk,ze,za,w1 hi (by omega),qyn n c0 hi,hr]) (by
   rw[zk1,h.fin];unfold qdW;simp only[z91];rw[dec_f (by omega)]; rfl)
 refine(congrArg (fun o=>Option.bind o _) key).trans ?_
 rfl
end Go.Proofs.YtfdgemafaphpaaaGreat
namespace Go.Proofs.YtfdgemafaphpaaaGreat
open Go Go.Sq Wi
set_option linter.unusedVariables false
theorem qAE{n:Net}{c:Cn}{r:Rec}(hv:qc7 n c.1=0)(h:(capp n c r).2=0):qc7 n (capp n c r).1.1=0:=by
 unfold capp at h ⊢;by_cases k1:r.1=1
 ·rw[if_pos k1];unfold capp1;split
  ·exact hv
  ·split <;> exact hv
 rw[if_neg k1] at h ⊢;by_cases k2:r.1=2
 ·rw[if_pos k2] at h ⊢;unfold capp2 at h ⊢;by_cases h1:c.2.2.2=1000
  ·rw[if_pos h1] at h; cases h
  rw[if_neg h1] at h ⊢;by_cases h2:(cmdS n c.1 r).2=0
  ·rw[if_pos h2];unfold cmdS at h2 ⊢;by_cases h3:0<r.2.1.length\/noE r.2.2.2=false
   ·rw[if_pos h3] at h2; cases h2
   rw[if_neg h3] at h2 ⊢;exact(qAm h2).to
  ·rw[if_neg h2] at h; exact absurd h h2
 rw[if_neg k2];by_cases k3:r.1=3
 ·rw[if_pos k3];unfold capp3;split
  ·exact hv
  ·split <;> exact hv
 ·rw[if_neg k3]; exact hv
end Go.Proofs.YtfdgemafaphpaaaGreat
