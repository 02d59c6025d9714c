/- The console: what was written is read. No condition. -/
import Derived.Test.YtmdijohmddokhaaGreatDoorCo7
import Derived.Test.YtmdijohmddokhaaGreatDoorCrd
namespace Go.Proofs.YtmdijohmddokhaaGreatDoor
open Go Go.Sq
set_option linter.unusedVariables false
theorem qye{A B:Type}(l:List A)(d:A)(g:A->B){step:Int×List B->Option ((Int×List B)⊕List B)}
  (hs:∀(k:Nat) (out:List B),k<l.length->out.length=k->step ((k:Int),out)=some (.inl (((k+1:Nat):Int),out++[g (l.getD k d)])))
  (he:∀out,step ((l.length:Int),out)=some (.inr out)):iter step (0,[])=some (l.map g):=by
 have key:∀(m k:Nat),k+m=l.length->iter step ((k:Int),(l.take k).map g)=some (l.map g):=by
  intro m;induction m with
  | zero=>
   intro k hk;refine qaV ?_
   rw[show k=l.length by omega,zV1]; exact he _
  | succ m ih=>
   intro k hk;refine(qbp (hs k _ (by omega) (by rw[z71,zn]; omega))).trans ?_
   have:(l.take k).map g++[g (l.getD k d)]=(l.take (k+1)).map g:=by
    rw[zq2 (by omega),zH1,zh,zk (by omega)]; rfl
   rw[this];exact ih (k+1) (by omega)
 exact key l.length 0 (by omega)
def numI(s:Str):Int:=match Lib.atoiAll s with
 | .ok v=>v
 | _=>0
theorem qiJ{l:List Str}(hl:l.length<=1000000)(hx:∀x∈l,x.length<=1000000):qbN l=some (l.map numI):=by
 refine ok_eq ?_
 unfold qbN;refine Ok.eq (a:=l.map numI) (qye l [] numI (fun k out hk ho=>?_) (fun out=>?_)) (.ret rfl)
 ·show qcF l (k:Int) out=_;have:=hx _ (gmem (d:=[]) hk);unfold qcF;rw[dec_t (by omega),za,gd_t (inB_t hk),z9,quR _ (by omega),z7,w1 hk (by omega)]
  unfold numI;cases Lib.atoiAll (l.getD k []) <;> exact gd_t (qaw (show(out.length+1)*8<=_ by omega))
 ·show qcF l (l.length:Int) out=_;unfold qcF;rw[dec_f (by omega)]; rfl
theorem qmA{n:Int}(h:smI n=true):numI (Lib.itoa n)=n:=by
 have h1:=qBb h;rw[quR _ (by have:=qdy h; omega)] at h1
 have h1:=zh2 h1;unfold numI;cases he:Lib.atoiAll (Lib.itoa n) <;> rw[he] at h1 <;> simp at h1 ⊢
 exact h1
theorem fidx{A:Type}(l:List A)(d:A)(f:A->Str)(hnd:(l.map f).Nodup){i:Nat}(hi:i<l.length):l.findIdx (fun x=>decide (f x=f (l.getD i d)))=i:=by
 have hlt:l.findIdx (fun x=>decide (f x=f (l.getD i d)))<l.length:=za2.2 ⟨_,qbe (d:=d) hi,z21 rfl⟩
 have hg:=List.findIdx_getElem (w:=hlt);rw[zj] at hg;have hg2:=hg.trans (congrArg f (gD_eq (d:=d) hi));have e:(l.map f)[l.findIdx (fun x=>decide (f x=f (l.getD i d)))]'(by simpa using hlt)=(l.map f)[i]'(by simpa using hi):=by
  rw[List.getElem_map,List.getElem_map];exact hg2
 exact(List.getElem_inj hnd).1 e
theorem qDp{n:Net}(h:NmP n){i:Int}(hi:ixB i n.2.1.length=true):qfK n (segN n i)=some i:=by
 obtain⟨h1,h2⟩:=ixB_t hi;have:=h.nb.s;unfold qfK segN;rw[qd3 _ (fun s=>decide (s.1=(n.2.1.getD i.toNat sg0).1)) _ (fun x _=>rfl) (by omega),z7,fidx n.2.1 sg0 (·.1) h.sd (by omega),if_pos (by omega),Int.toNat_of_nonneg h1]
theorem qBi{n:Net}(h:NmP n){i:Int}(hi:ixB i n.2.2.1.length=true):qgZ n (portN n i)=some i:=by
 obtain⟨h1,h2⟩:=ixB_t hi;have:=h.nb.p;unfold qgZ portN;rw[qhc _ (fun s=>decide (s.1=(n.2.2.1.getD i.toNat po0).1)) _ (fun x _=>rfl) (by omega),z7,fidx n.2.2.1 po0 (·.1) h.pd (by omega),if_pos (by omega),Int.toNat_of_nonneg h1]
theorem qE9{n:Net}(h:NmP n){i:Int}(hi:ixB i n.2.2.2.1.length=true)(w:List Str):
  qaa n.2.2.2.1 (fun h=>(qc0 h.1 (staN n i::w)).bind fun y=>some y)=some i:=by
 obtain⟨h1,h2⟩:=ixB_t hi;have:=h.nb.a;unfold staN;rw[qcu _ (fun s=>decide (s.1=(n.2.2.2.1.getD i.toNat sta0).1)) _ (fun x _=>?_) (by omega),fidx n.2.2.2.1 sta0 (·.1) h.ad (by omega),if_pos (by omega),Int.toNat_of_nonneg h1]
 unfold qc0;rw[gd_t (inB0 (by simp))]; rfl
theorem qEq{x:Str}(h:nameB x=true):∃a r,x=a::r/\a≠45:=by
 unfold nameB at h;simp only[z8,zb1] at h;cases x with
 | nil=>have:=h.1.1.1; simp at this
 | cons a r=>
  refine⟨a,r,rfl,fun e=>?_⟩
  subst e;have h9:fch 45=true:=h.1.2;revert h9
  decide
def cut45:Str->Str×Bool
 | []=>([],false)
 | a::r=>if a=45 then(r,true) else(a::r,false)
theorem pre45(s:Str)(hl:s.length<=1000000):qeb s [45]=some (cut45 s):=by
 unfold qeb qbP qbO;cases s with
 | nil=>rfl
 | cons a r=>
  rw[dec_t (show(([45]:Str).length:Int)<=((a::r:Str).length:Int) by simp only[zg,zx]; omega),za,gd_t (by
   unfold cutG; simp only[zg,zx] at hl ⊢; simp; omega),z7]
  show Option.bind (bif !decide ([a]=[45]) then some (a::r,false) else _) _=_;unfold cut45;by_cases h:a=45
  ·subst h;rw[dec_t rfl,zf,zb,gd_t (by unfold cutG; simp only[zg,zx] at hl ⊢; simp; omega)]; rfl
  ·rw[dec_f (by simpa using h)]
   simp only[zk1,za,z7,if_neg h]
theorem qFa{n:Net}(h:NmP n){x:Hop}(hi:ixB x.1 n.2.1.length=true):qkh n (hopV n x)=some x:=by
 obtain⟨h1,h2⟩:=ixB_t hi;have hf:nameB (segN n x.1)=true:=h.sf _ (gmem (by omega))
 have hl:=qna hf;obtain⟨a,r,e,ha⟩:=qEq hf;refine ok_eq ?_
 unfold qkh hopV;cases hb:x.2
 ·rw[zb];refine Ok.eq (pre45 _ (by omega)) (Ok.eq (a:=x.1) ?_ (.ret ?_))
  ·rw[e,show cut45 (a::r)=(a::r,false) from if_neg ha,<-e]; exact qDp h hi
  ·rw[e,show cut45 (a::r)=(a::r,false) from if_neg ha]; exact Prod.ext rfl hb.symm
 ·rw[za];refine Ok.eq (pre45 _ (by rw[zg]; omega)) (Ok.eq (a:=x.1) (qDp h hi) (.ret (Prod.ext rfl hb.symm)))
end Go.Proofs.YtmdijohmddokhaaGreatDoor
namespace Go.Proofs.YtmdijohmddokhaaGreatDoor
open Go Go.Sq
set_option linter.unusedVariables false
theorem qBj{s:Stp}(h:noB s=true):s=(0,0,0,0,0,[],0):=by
 obtain⟨a,b,c,d,e,f,g⟩:=s;unfold noB at h;simp only[z8,zj,zI1] at h;obtain⟨rfl,rfl,rfl,rfl,rfl,rfl,rfl⟩:=h;rfl
theorem qDq{e:Ent3}(h:noE e=true):e=([],0,0):=by
 obtain⟨a,b,c⟩:=e;unfold noE at h;simp only[z8,zj] at h;obtain⟨rfl,rfl,rfl⟩:=h;rfl
theorem qu4{s:Stp}(h:bareB s=true)(hr:s.2.2.2.2.2.2=0):s=(s.1,s.2.1,s.2.2.1,0,0,[],0):=by
 obtain⟨a,b,c,d,e,f,g⟩:=s;unfold bareB at h;simp only[z8,zj,zI1] at h;obtain⟨rfl,rfl,rfl⟩:=h;cases hr;rfl
theorem qv9{n:Net}:∀ {l:List Hop},hopsB n l=true->hopsV n l=l.map (hopV n)
 | [],_=>rfl
 | h::r,hb=>by
  unfold hopsB at hb;rw[z11,z8] at hb;unfold hopsV;rw[hb.1,qv9 hb.2]; rfl
theorem qEr{n:Net}(h:NmP n){v i o:Int}{l:List Hop}(hv:smI v=true)(hi:ixB i n.2.2.1.length=true)(ho:ixB o n.2.2.1.length=true)(hl:l.length<=100)(hb:hopsB n l=true):
  qc5 (Lib.itoa v::portN n i::portN n o::l.map (hopV n)) 5 n=some (2,[],(5,0,v,i,o,l,0),[],0,0):=by
 have hbs:=zm.1 hb;refine ok_eq ?_
 unfold qc5;refine Ok.eq (a:=(0,[],0,0,0,0,0,0,[],0,0,[])) rfl (Ok.eq rfl ?_)
 refine Ok.eq (a:=(2,[],5,0,v,i,o,0,[],0,0,l)) ?_ (.ret rfl)
 refine ok_eq ?_
 unfold qfL;have hx:∀x∈(Lib.itoa v::portN n i::portN n o::l.map (hopV n)),x.length<=1000000:=by
  intro x hx;rcases zw.1 hx with rfl | hx
  ·have:=qdy hv; omega
  rcases zw.1 hx with rfl | hx
  ·have:=h.nb.pn i; omega
  rcases zw.1 hx with rfl | hx
  ·have:=h.nb.pn o; omega
  obtain⟨y,_,rfl⟩:=zS.1 hx;have:=h.nb.sn y.1;unfold hopV;cases y.2
  ·rw[zb]; omega
  ·rw[za,zg]; omega
 refine Ok.eq (qiJ (by simp; omega) hx) ?_
 refine Ok.gd (inB0 (by simp)) (Ok.gd (inB_t (i:=1) (by simp)) (Ok.eq (qBi h hi) (Ok.gd (inB_t (i:=2) (by simp)) (Ok.eq (qBi h ho) (Ok.gd ?_ (Ok.eq (a:=l) ?_ (.ret ?_)))))))
 ·unfold cutG; simp; omega
 ·show iter (fun x=>qbn (Lib.itoa v::portN n i::portN n o::l.map (hopV n)) n x.1 x.2) (0,[])=_
  have hd:(Lib.itoa v::portN n i::portN n o::l.map (hopV n)).drop 3=l.map (hopV n):=rfl;refine(qye l (0,false) id (fun k out hk ho=>?_) fun out=>?_).trans (by rw[List.map_id])
  ·show qbn _ _ (k:Int) out=_;unfold qbn;rw[hd,z71,dec_t (by omega),za,gd_t (inB_t hk),z9,w1 hk (by omega)]
   have hg:(l.map (hopV n)).getD k []=hopV n (l.getD k (0,false)):=by
    rw[zh,zh,zL,zk hk]; rfl
   rw[hg,qFa h (hbs _ (gmem hk)),z7,gd_t (qaw (by omega))]; rfl
  ·show qbn _ _ (l.length:Int) out=_;unfold qbn;rw[hd,z71,dec_f (by omega)]; rfl
 ·show _=(2,[],5,0,v,i,o,0,[],0,0,l);rw[show((Lib.itoa v::portN n i::portN n o::l.map (hopV n)).map numI).getD 0 0=v from qmA hv]
theorem qyf{k i:Int}(hi:smI i=true):qbs [Lib.itoa i] k ()=some (2,[],(k,i,0,0,0,[],0),[],0,0):=by
 refine ok_eq ?_
 unfold qbs;refine Ok.eq (a:=(2,[],k,i,0,0,0,[],0,[],0,0)) (ok_eq ?_) (.ret rfl)
 unfold qfE;refine Ok.eq (qiJ (by simp) (by have:=qdy hi; simp; omega)) (Ok.gd (inB0 (by simp)) (.ret ?_))
 rw[show([Lib.itoa i].map numI).getD 0 0=i from qmA hi]
theorem qEs{i:Int}(hi:smI i=true):qc4 [Lib.itoa i] 6 ()=some (2,[],(6,0,i,0,0,[],0),[],0,0):=by
 refine ok_eq ?_
 unfold qc4;refine Ok.eq (a:=(2,[],6,0,i,0,0,[],0,[],0,0)) (ok_eq ?_) (.ret rfl)
 unfold qfH;refine Ok.eq (qiJ (by simp) (by have:=qdy hi; simp; omega)) (Ok.gd (inB0 (by simp)) (.ret ?_))
 rw[show([Lib.itoa i].map numI).getD 0 0=i from qmA hi]
theorem qtD{n:Net}(h:NmP n){k i:Int}(hi:ixB i n.2.2.2.1.length=true):qbd [staN n i] k n=some (2,[],(k,i,0,0,0,[],0),[],0,0):=by
 refine ok_eq ?_
 unfold qbd;refine Ok.eq (a:=(2,[],k,i,0,0,0,[],0,[],0,0)) (ok_eq ?_) (.ret rfl)
 unfold qfG;exact Ok.eq (qE9 h hi []) (.ret rfl)
theorem qEt{v:List Int}(hl:v.length<=21)(hv:v.all smI=true):qcJ (v.map Lib.itoa)=some (1,v,(0,0,0,0,0,[],0),[],0,0):=by
 have hv:=zm.1 hv;refine ok_eq ?_
 unfold qcJ;refine Ok.eq (qiJ (by simp; omega) fun x hx=>?_) (.ret ?_)
 ·obtain⟨y,hy,rfl⟩:=zS.1 hx;have:=qdy (hv y hy); omega
 ·rw[List.map_map,show v.map (numI∘Lib.itoa)=v by
   conv=>rhs; rw[<-List.map_id v]
   exact zr2 fun x hx=>qmA (hv x hx)]
theorem qCH{s:Str}{k v:Int}(hk:1<=k/\k<=4)(hs:s.length<=12)(hv:smI v=true):qcK [kindL.getD k.toNat [],s,Lib.itoa v]=some (3,[],(0,0,0,0,0,[],0),s,k,v):=by
 have hc:k=1\/k=2\/k=3\/k=4:=by omega
 refine ok_eq ?_
 unfold qcK;refine Ok.eq (a:=kindL) rfl (Ok.gd (inB0 (by simp)) (Ok.eq (a:=k) ?_ (Ok.gd (inB_t (i:=1) (by simp)) (Ok.eq (qiJ (by simp) ?_) (Ok.gd (inB_t (i:=2) (by simp)) (.ret ?_))))))
 ·show qaz kindL (kindL.getD k.toNat [])=_;rw[sidx _ _ (by decide)]
  rcases hc with rfl | rfl | rfl | rfl <;> decide
 ·have:=qdy hv;have hm:∀x∈kindL,x.length<=1000000:=by decide
  have:=hm _ (gmem (l:=kindL) (i:=k.toNat) (d:=[]) (by simp; omega))
  intro x hx;simp only[zw,List.not_mem_nil,or_false] at hx;rcases hx with rfl | rfl | rfl <;> omega
 ·show(3,[],(0,0,0,0,0,[],0),s,max 0 k,numI (Lib.itoa v))=_;rw[qmA hv,Int.max_eq_right (by omega)]
end Go.Proofs.YtmdijohmddokhaaGreatDoor
namespace Go.Proofs.YtmdijohmddokhaaGreatDoor
open Go Go.Sq
set_option linter.unusedVariables false
structure WOk(x:Str):Prop where
 w:wordB x=true
 l:x.length<=17
theorem WOk.name{x:Str}(h:nameB x=true):WOk x:=⟨(qsG h).1,zG (qsG h).2 (by decide)⟩
theorem WOk.num{n:Int}(h:smI n=true):WOk (Lib.itoa n):=⟨qy2 n,qdy h⟩
theorem WOk.hop{n:Net}(h:NmP n){x:Hop}(hi:ixB x.1 n.2.1.length=true):WOk (hopV n x):=by
 have hf:nameB (segN n x.1)=true:=h.sf _ (gmem (by have:=ixB_t hi; omega))
 have hw:=WOk.name hf;unfold hopV;cases x.2
 ·exact hw
 ·refine⟨?_,by rw[za,zg]; have:=qna hf; omega⟩
  have:=hw.w;unfold wordB at this ⊢;rw[z8] at this;rw[za,z11,this.1]; rfl
structure CmdR(n:Net)(r:Rec)(c:Str)(w:List Str):Prop where
 k:fmHas qje c=true
 ne:w≠[]
 l3:(c=qlm\/c=cFlow)->3<=w.length
 g:cmdG n (c,w,())=some r
 cw:WOk c
 ws:∀x∈w,WOk x
 l:w.length<=35
theorem one_w{x:Str}(h:WOk x):∀y∈[x],WOk y:=fun y hy=>by rw[zW.1 hy]; exact h
theorem qBk{n:Net}(h:NmP n){r:Rec}(hB:recB n r=true):∃c w,recV n r=c::w/\CmdR n r c w:=by
 have hk:∀c∈qje,fmHas qje c=true:=by decide
 have hc:∀c∈qje,wordB c=true/\c.length<=17:=by decide
 have hn:=h.nb;obtain⟨k,v,s,e⟩:=r;unfold recB at hB;unfold recV;split at hB
 ·rename_i h1;replace h1:k=1:=h1;subst h1;simp only[z8,zj] at hB;obtain⟨⟨h1,h2⟩,h3,h4,h5⟩:=hB;rw[qBj h1,qDq h2];rw[if_pos rfl];refine⟨_,_,rfl,hk _ (by decide),?_,?_,qEt h4 h5,⟨(hc _ (by decide)).1,(hc _ (by decide)).2⟩,fun x hx=>?_,by simp only[z71]; omega⟩
  ·intro e;have e:v=[]:=List.map_eq_nil_iff.1 e;rw[e] at h3; simp at h3
  ·rintro(e | e) <;> exact absurd e (by decide)
  ·obtain⟨y,hy,rfl⟩:=zS.1 hx;exact .num (zm.1 h5 y hy)
 rename_i h1;rw[if_neg h1];split at hB
 ·rename_i h2;replace h2:k=2:=h2;subst h2;simp only[z8,zj] at hB;obtain⟨⟨h1,h2⟩,h3⟩:=hB;replace h1:v=[]:=zI1.1 h1;subst h1;rw[qDq h2,if_pos rfl];unfold stepB at h3;simp only[z8,zd1,zj] at h3;obtain⟨⟨h4,h5⟩,h6⟩:=h3;unfold qhf at h6;split at h6
  ·rename_i hk12;have hs:=qu4 (h5.resolve_left (by omega)) h4
   simp only[z8,zj] at h6;obtain⟨h7,h8,h9⟩:=h6;rw[h9] at hs;rcases hk12 with hq | hq
   ·rw[hq] at hs;rw[hs];exact⟨_,_,rfl,hk cOpen (by decide),by simp,fun e=>by rcases e with e | e <;> exact absurd e (by decide),qyf h8,⟨(hc cOpen (by decide)).1,(hc cOpen (by decide)).2⟩,one_w (.num h8),by simp⟩
   ·rw[hq] at hs;rw[hs];exact⟨_,_,rfl,hk qv8 (by decide),by simp,fun e=>by rcases e with e | e <;> exact absurd e (by decide),qyf h8,⟨(hc qv8 (by decide)).1,(hc qv8 (by decide)).2⟩,one_w (.num h8),by simp⟩
  rename_i hk12;split at h6
  ·rename_i hk34;have hs:=qu4 (h5.resolve_left (by omega)) h4
   simp only[z8,zj] at h6;obtain⟨h7,h9⟩:=h6;rw[h9] at hs;have hw:∀y∈[staN n s.2.1],WOk y:=one_w (.name (h.af _ (gmem (by have:=ixB_t h7; omega))))
   have hv:staV n s.2.1=[staN n s.2.1]:=by unfold staV; rw[h7]; rfl
   rcases hk34 with hq | hq
   ·rw[hq] at hs;rw[hs];refine⟨_,_,show stepV n (3,s.2.1,0,0,0,[],0)=qsI::[staN n s.2.1] by show qsI::staV n s.2.1=_; rw[hv],hk qsI (by decide),by simp,fun e=>by rcases e with e | e <;> exact absurd e (by decide),qtD h h7,⟨(hc qsI (by decide)).1,(hc qsI (by decide)).2⟩,hw,by simp⟩
   ·rw[hq] at hs;rw[hs];refine⟨_,_,show stepV n (4,s.2.1,0,0,0,[],0)=cStop::[staN n s.2.1] by show cStop::staV n s.2.1=_; rw[hv],hk cStop (by decide),by simp,fun e=>by rcases e with e | e <;> exact absurd e (by decide),qtD h h7,⟨(hc cStop (by decide)).1,(hc cStop (by decide)).2⟩,hw,by simp⟩
  split at h6
  ·rename_i hk5;unfold flowB at h6;simp only[z8,zj] at h6;obtain⟨g1,g2,g3,g4,g5,g6⟩:=h6;obtain⟨sk,si,sv,pi,po,pl,pr⟩:=s;simp only at hk5 g1 g2 g3 g4 g5 g6 h4;subst hk5 g2 h4;have hv:stepV n (5,0,sv,pi,po,pl,0)=cFlow::(Lib.itoa sv::portN n pi::portN n po::pl.map (hopV n)):=by
    show cFlow::Lib.itoa sv::(portV n pi++(portV n po++hopsV n pl))=_;unfold portV;rw[g4,g5,qv9 g6]; rfl
   refine⟨_,_,hv,hk cFlow (by decide),by simp,fun _=>by simp,qEr h g1 g4 g5 (by omega) g6,⟨(hc cFlow (by decide)).1,(hc cFlow (by decide)).2⟩,fun x hx=>?_,by simp; omega⟩
   rcases zw.1 hx with rfl | hx
   ·exact .num g1
   rcases zw.1 hx with rfl | hx
   ·exact .name (h.pf _ (gmem (by have:=ixB_t g4; omega)))
   rcases zw.1 hx with rfl | hx
   ·exact .name (h.pf _ (gmem (by have:=ixB_t g5; omega)))
   ·obtain⟨y,hy,rfl⟩:=zS.1 hx;exact .hop h (zm.1 g6 y hy)
  rename_i hk34 hk5;split at h6
  ·rename_i hk6;have hs:=qu4 (h5.resolve_left hk5) h4;simp only[z8,zj] at h6;rw[h6.2,hk6] at hs;rw[hs];exact⟨_,_,rfl,hk cWait (by decide),by simp,fun e=>by rcases e with e | e <;> exact absurd e (by decide),qEs h6.1,⟨(hc cWait (by decide)).1,(hc cWait (by decide)).2⟩,one_w (.num h6.1),by simp⟩
  ·cases h6
 rename_i hk2;rw[if_neg hk2];split at hB
 ·rename_i h3;replace h3:k=3:=h3;subst h3;simp only[z8,zj] at hB;obtain⟨⟨h1,h2⟩,h3⟩:=hB;replace h1:v=[]:=zI1.1 h1;subst h1;rw[qBj h2,if_pos rfl];obtain⟨sh,ek,ev⟩:=e;unfold entB at h3;simp only[z8,qu0] at h3;obtain⟨g1,g2,g3⟩:=h3;have g4:=ixB_t g1;have hv:entV (sh,ek,ev)=qlm::[kindL.getD ek.toNat [],sh,Lib.itoa ev]:=by
   unfold entV;simp only;rw[g1]; rfl
  have hm:∀x∈kindL.drop 1,wordB x=true/\x.length<=17:=by decide
  have hm2:kindL.getD ek.toNat []∈kindL.drop 1:=by
   have:ek=1\/ek=2\/ek=3\/ek=4:=by omega
   rcases this with rfl | rfl | rfl | rfl <;> decide
  refine⟨_,_,hv,hk qlm (by decide),by simp,fun _=>by simp,qCH (by omega) (qna g2) g3,⟨(hc qlm (by decide)).1,(hc qlm (by decide)).2⟩,fun x hx=>?_,by simp⟩
  rcases zw.1 hx with rfl | hx
  ·exact⟨(hm _ hm2).1,(hm _ hm2).2⟩
  rcases zw.1 hx with rfl | hx
  ·exact .name g2
  ·rw[zW.1 hx]; exact .num g3
 ·cases hB
theorem qql{n:Net}(h:NmP n){r:Rec}(hB:recB n r=true):(10:UInt8)∉joinS (recV n r)/\(joinS (recV n r)).length<=650/\splB 32 (joinS (recV n r))=recV n r:=by
 obtain⟨c,w,e,hc⟩:=qBk h hB;rw[e];have hw:∀x∈c::w,WOk x:=fun x hx=>by
  rcases zw.1 hx with rfl | hx
  ·exact hc.cw
  ·exact hc.ws x hx
 have h3:=qw8 (w:=c::w) fun x hx=>(hw x hx).l
 have h4:=quV (c::w);have:=hc.l;rw[zg] at h3 h4;exact⟨qyc fun x hx=>(hw x hx).w,by omega,qv7 (by simp) fun x hx=>(hw x hx).w⟩
theorem qy5{n:Net}(h:NmP n){r:Rec}(hB:recB n r=true):qhL n (joinS (recV n r))=some (r,true):=by
 obtain⟨h10,hlen,hspl⟩:=qql h hB;have hf:=qyd h.nb (qu1 h.nb hB);obtain⟨c,w,e,hc⟩:=qBk h hB;have hs:=qCD (joinS (recV n r)) (by omega)
 rw[hspl] at hs;refine ok_eq ?_
 unfold qhL;refine Ok.eq hs (Ok.eq (a:=cmdG n) rfl ?_)
 rw[e];have hwl:0<w.length:=List.length_pos_iff.2 hc.ne;refine Ok.gd (inB0 (by simp)) (Ok.eq (a:=false) ?_ ?_)
 ·show(bif !(fmHas qje c) then some true else some (decide (((c::w).length:Int)<2)))=_;rw[hc.k,dec_f (by rw[zg]; omega)]; rfl
 show Ok (gd _ _) _;refine Ok.gd (by unfold cutG; simp; omega) (Ok.eq (a:=decide (c=qlm) || decide (c=cFlow)) ?_ (Ok.eq (a:=()) ?_ ?_))
 ·show gd _ (bif decide (c=qlm) then some true else gd _ (some (decide (c=cFlow))))=_;rw[gd_t (inB0 (by simp)),gd_t (inB0 (by simp))]
  exact qd6 rfl
 ·cases hb:(decide (c=qlm) || decide (c=cFlow))
  ·rfl
  ·have:=hc.l3 (by simpa using hb)
   refine ok_eq (Ok.eq (a:=()) (qaV ?_) (.ret rfl))
   unfold qk0;rw[dec_f (by show ¬(w.length:Int)<3; omega)]; rfl
 refine Ok.eq (a:=r) ?_ ?_
 ·show(bif fmHas qje c then cmdG n (c,w,()) else none)=_;rw[hc.k,za,hc.g]
 ·refine Ok.eq (a:=(joinS (c::w),true)) ?_ ?_
  ·rw[<-e,<-hB]; exact hf
  ·exact .ret (Prod.ext rfl (z21 rfl))
end Go.Proofs.YtmdijohmddokhaaGreatDoor
namespace Go.Proofs.YtmdijohmddokhaaGreatDoor
open Go Go.Sq
set_option linter.unusedVariables false
def qcl(n:Net)(l:List Rec):Str:=l.flatMap fun r=>joinS (recV n r)++[10]
theorem qd7(n:Net)(r:Rec)(l:List Rec):qcl n (r::l)=joinS (recV n r)++10::qcl n l:=by
 unfold qcl;rw[List.flatMap_cons,zu]; rfl
theorem qy6(n:Net)(a b:List Rec):qcl n (a++b)=qcl n a++qcl n b:=by
 unfold qcl;rw[List.flatMap_append]
def RcB(n:Net)(l:List Rec):Prop:=∀r∈l,recB n r=true
theorem RcB.tl{n:Net}{r:Rec}{l:List Rec}(h:RcB n (r::l)):recB n r=true/\RcB n l:=⟨h r (.head _),fun x hx=>h x (.tail _ hx)⟩
theorem qnb{n:Net}(h:NmP n):∀ {l:List Rec},RcB n l->(qcl n l).length<=651*l.length
 | [],_=>z61 _
 | r::l,hb=>by
  have:=qnb h hb.tl.2;have:=(qql h hb.tl.1).2.1;rw[qd7,zd,zg,zg];omega
theorem qtE{n:Net}(h:NmP n):∀ {l:List Rec},RcB n l->(qcl n l).count 10=l.length
 | [],_=>rfl
 | r::l,hb=>by
  rw[qd7,List.count_append,List.count_cons_self,qtE h hb.tl.2,List.count_eq_zero.2 (qql h hb.tl.1).1,zg,zY]
theorem qsJ(n:Net):∀ {l:List Rec},l≠[]->(qcl n l).getLast? = some 10
 | [],h=>absurd rfl h
 | [r],_=>by rw[qd7]; exact List.getLast?_concat
 | r::x::l,_=>by
  have:=qsJ n (l:=x::l) (by simp)
  rw[qd7,List.getLast?_append,List.getLast?_cons,this]; rfl
theorem qsK(n:Net)(r:Rec)(l:List Rec):qcl n (r::l)≠[]:=by rw[qd7]; simp
theorem qtF{n:Net}(h:NmP n):∀(t out:List Rec),RcB n t->out.length+t.length<=1000->iter (fun x:Str×List Rec=>qe3 n x.1 x.2) (qcl n t,out)=some (.inl (out++t))
 | [],out,_,_=>by
  rw[zM];exact qaV rfl
 | r::t,out,hb,hl=>by
  rw[zg] at hl;obtain⟨h1,h2,_⟩:=qql h hb.tl.1;have ht:=qnb h hb.tl.2;refine(qbp (y:=(qcl n t,out++[r])) ?_).trans ?_
  ·show qe3 n (qcl n (r::t)) out=_;refine ok_eq ?_
   unfold qe3;rw[dec_f (qsK n r t)];have hc:=qEi (r:=qcl n t) h1 (by rw[zd,zg]; omega)
   rw[<-qd7] at hc;refine Ok.eq hc (Ok.eq (qy5 h hb.tl.1) (Ok.eq (a:=(false,out)) rfl ?_))
   exact Ok.gd (qaw (by show(out.length+1)*136<=_; omega)) (.ret rfl)
  ·rw[qtF h t (out++[r]) hb.tl.2 (by rw[zd,zI]; omega),zu]; rfl
theorem qyg{n:Net}(h0:qbb n=0){l:List Rec}(hb:RcB n l)(hl:l.length<=25):qde n (qcl n l)=some (l,0,0):=by
 have h:=NmP.of h0;have h1:=qnb h hb;have h2:=qtE h hb;refine ok_eq ?_
 unfold qde;refine Ok.eq (qfl n) ?_
 rw[dec_t h0,zf,zb];refine Ok.eq (qv5 _ 10) ?_
 rw[h2];refine Ok.eq (a:=false) ?_ (Ok.eq (a:=((l.length:Nat):Int)) rfl (Ok.eq (a:=false) ?_ ?_))
 ·cases l with
  | nil=>rfl
  | cons r l=>
   rw[dec_f (qsK n r l)];exact ok_eq (Ok.eq (qBa _ (qsK n r l) (by omega)) (.ret (by rw[dec_t (qsJ n (by simp))]; rfl)))
 ·rw[dec_f (show ¬(16384:Int)<((qcl n l).length:Int) by omega),dec_f (show ¬(400:Int)<(l.length:Int) by omega)]; rfl
 ·refine Ok.eq (qtF h l [] hb (by simp; omega)) (.ret rfl)
/-! ### Run -/
noncomputable def runC(n:Net):List Rec->Nat->Cn->Cn×Int×Int
 | [],_,c=>(c,0,0)
 | r::t,k,c=>if(capp n c r).2=0 then runC n t (k+1) (capp n c r).1 else(c,((k+1:Nat):Int),(capp n c r).2)
theorem qBl{n:Net}{r:Rec}(h:recB n r=true):RecP r:=by
 have hh:noB r.2.2.1=true->r.2.2.1.2.2.2.2.2.1.length<=100:=fun h=>by rw[qBj h]; decide
 unfold recB at h;split at h
 ·simp only[z8,zj] at h;exact⟨by omega,hh h.1.1⟩
 split at h
 ·simp only[z8,zj] at h;refine⟨by omega,?_⟩
  have h3:=h.2;unfold stepB at h3;simp only[z8,zd1,zj] at h3;by_cases h5:r.2.2.1.1=5
  ·have:=h3.2;unfold qhf at this;rw[if_neg (by omega),if_neg (by omega),if_pos h5] at this
   unfold flowB at this;simp only[z8,zj] at this;omega
  ·have:=h3.1.2.resolve_left h5;unfold bareB at this;simp only[z8,zj] at this;omega
 split at h
 ·simp only[z8,zj] at h;exact⟨by omega,hh h.1.2⟩
 ·cases h
theorem qBm{A:Type}{l:List A}{k:Nat}{x:A}{t:List A}{d:A}(he:l.drop k=x::t):k<l.length/\l.getD k d=x/\l.drop (k+1)=t:=by
 have hk:k<l.length:=by
  have:=congrArg List.length he;rw[z01,zg] at this; omega
 have hd:=ze1 hk;rw[he] at hd;refine⟨hk,?_,(z12 hd).2.symm⟩
 rw[zh,zk hk];exact(z12 hd).1.symm
theorem qyh{A:Type}{l:List A}{k:Nat}(he:l.drop k=[])(hk:k<=l.length):k=l.length:=by
 have:=congrArg List.length he;rw[z01,zx] at this; omega
abbrev r0:Rec:=(0,[],(0,0,0,0,0,[],0),[],0,0)
theorem qyi{n:Net}(hn:GN n){rs:List Rec}(hb:RcB n rs)(hl:rs.length<=100):∀(t:List Rec) (k:Nat) (c:Cn),rs.drop k=t->k<=rs.length->CnI n c k->
  Ok (iter (fun x:Int×List Vl×List Int×List Int×List Bool×List Tel×List Acc4×Int×List Vl×List Int×List Int×List Bool×List Tel×List Acc4×Int=>
   qdB n (rs,(0,0)) x.1 x.2.1 x.2.2.1 x.2.2.2.1 x.2.2.2.2.1 x.2.2.2.2.2.1 x.2.2.2.2.2.2.1 x.2.2.2.2.2.2.2.1 x.2.2.2.2.2.2.2.2.1 x.2.2.2.2.2.2.2.2.2.1 x.2.2.2.2.2.2.2.2.2.2.1 x.2.2.2.2.2.2.2.2.2.2.2.1 x.2.2.2.2.2.2.2.2.2.2.2.2.1 x.2.2.2.2.2.2.2.2.2.2.2.2.2.1 x.2.2.2.2.2.2.2.2.2.2.2.2.2.2)
   ((k:Int),[],[],[],[],[],[],0,c.1.1,c.1.2.1,c.1.2.2.1,c.1.2.2.2,c.2.1,c.2.2.1,c.2.2.2))
   fun s=>s.elim (fun s2=>(((s2.2.2.2.2.2.2.2.1,s2.2.2.2.2.2.2.2.2.1,s2.2.2.2.2.2.2.2.2.2.1,s2.2.2.2.2.2.2.2.2.2.2.1),s2.2.2.2.2.2.2.2.2.2.2.2.1,s2.2.2.2.2.2.2.2.2.2.2.2.2.1,s2.2.2.2.2.2.2.2.2.2.2.2.2.2),(0:Int),(0:Int))=runC n t k c)
    (fun s3=>(((s3.2.2.1,s3.2.2.2.1,s3.2.2.2.2.1,s3.2.2.2.2.2.1),s3.2.2.2.2.2.2.1,s3.2.2.2.2.2.2.2.1,s3.2.2.2.2.2.2.2.2),s3.1,s3.2.1)=runC n t k c)
 | [],k,c,he,hk,hi=>by
  have hk:=qyh he hk;refine⟨.inl ([],[],[],[],[],[],0,c.1.1,c.1.2.1,c.1.2.2.1,c.1.2.2.2,c.2.1,c.2.2.1,c.2.2.2),qaV ?_,(rfl:(c,(0:Int),(0:Int))=runC n [] k c)⟩
  show qdB n (rs,0,0) (k:Int) _ _ _ _ _ _ _ _ _ _ _ _ _ _=_;unfold qdB;rw[dec_f (by simp only; omega)]; rfl
 | r::t,k,c,he,hk,hi=>by
  obtain⟨h1,h2,h3⟩:=qBm (d:=r0) he;have hr:=qBl (hb r (by rw[<-h2]; exact gmem h1))
  have ha:qdZ n c r=some (capp n c r):=apply_eq' n (hi.cns hn (by omega)) hi.srt ⟨hi.n0,by have:=hi.n1; omega⟩ r (by have:=hr.v; omega)
  have hs:∀z,(bif !decide ((capp n c r).2=0) then some (.inr (.inr (((k+1:Nat):Int),(capp n c r).2,c.1.1,c.1.2.1,c.1.2.2.1,c.1.2.2.2,c.2.1,c.2.2.1,c.2.2.2)))
    else some (.inl (((k+1:Nat):Int),[],[],[],[],[],[],0,(capp n c r).1.1.1,(capp n c r).1.1.2.1,(capp n c r).1.1.2.2.1,(capp n c r).1.1.2.2.2,(capp n c r).1.2.1,(capp n c r).1.2.2.1,(capp n c r).1.2.2.2)))=some z->
    qdB n (rs,0,0) (k:Int) [] [] [] [] [] [] 0 c.1.1 c.1.2.1 c.1.2.2.1 c.1.2.2.2 c.2.1 c.2.2.1 c.2.2.2=some z:=by
   intro z hz;refine ok_eq ?_
   unfold qdB;rw[dec_t (by simp only; omega),w1 h1 (by omega)]
   simp only[z9];rw[h2];exact Ok.gd (inB_t h1) (Ok.eq ha ⟨_,hz,rfl⟩)
  by_cases h0:(capp n c r).2=0
  ·obtain⟨e,e1,e2⟩:=qyi hn hb hl t (k+1) (capp n c r).1 h3 h1 (qsE hi (by omega) hr h0).1
   refine⟨e,(qbp (hs _ (by rw[dec_t h0]; rfl))).trans e1,?_⟩
   unfold runC;rw[if_pos h0];exact e2
  ·refine⟨_,qaV (hs _ (by rw[dec_f h0]; rfl)),?_⟩
   unfold runC;rw[if_neg h0];rfl
end Go.Proofs.YtmdijohmddokhaaGreatDoor
namespace Go.Proofs.YtmdijohmddokhaaGreatDoor
open Go Go.Sq
set_option linter.unusedVariables false
def st0(n:Net):Cn:=((List.replicate (n.2.1.length+n.2.2.1.length) (1,0,false,false),List.replicate n.2.1.length 0,List.replicate n.2.2.1.length 0,List.replicate n.2.2.2.1.length false),[],[],0)
theorem qBn{n:Net}(hg:GN n)(h0:qbb n=0):ql9 n 1=some (st0 n,0):=by
 have hp1:=hg.p1; have hg1:=hg.sg; have hg2:=hg.po; have hg3:=hg.st;refine ok_eq ?_
 unfold ql9;exact Ok.eq (qCy (n:=n) (t:=1) h0 ⟨by omega,by omega⟩ (by omega)) (.ret rfl)
theorem qFb{n:Net}(hg:GN n)(h0:qbb n=0):qjE n 1=some (st0 n,0):=qD8 h0 (by have:=hg.p1; omega) (by omega)
theorem qyj{n:Net}(hg:GN n):CnI n (st0 n) 0:=⟨⟨by simp[st0],⟨by simp[st0],by simp[st0],by simp[st0]⟩⟩,by simp[st0],by simp[st0],by unfold SortT; simp[st0],by simp[st0],by simp[st0],by simp[st0]⟩
theorem qBo{n:Net}(hn:GN n)(h0:qbb n=0){m:Int}(hm:0<=m/\m<=10){s:List Int}{q:Int}(h:SrcOk s q):
  Ok (qhZ n 1 m s q) fun z=>SrcOk z.2.1 z.2.2.1/\z.2.2.2.length<=m.toNat/\CnI n z.1 10:=by
 unfold qhZ;refine Ok.eq (qBn hn h0) ?_
 rw[wi (by omega)]
 refine Ok.bind (sN h (n:=m+1) (by omega) (by omega)) fun r hr=>?_
 refine Ok.bind (Q:=fun z:List Vl×List Int×List Int×List Bool×List Tel×List Acc4×Int×List Int×Int×List Rec=>SrcOk z.2.2.2.2.2.2.2.1 z.2.2.2.2.2.2.2.2.1/\z.2.2.2.2.2.2.2.2.2.length<=m.toNat/\CnI n ((z.1,z.2.1,z.2.2.1,z.2.2.2.1),z.2.2.2.2.1,z.2.2.2.2.2.1,z.2.2.2.2.2.2.1) 10) ?_ fun z hz=>.ret hz
 refine Ok.loop (fun x:Int×List Int×Int×List Vl×List Int×List Int×List Bool×List Tel×List Acc4×Int×List Rec=>∃k:Nat,0<=x.1/\x.1+k<=m/\SrcOk x.2.1 x.2.2.1/\CnI n ((x.2.2.2.1,x.2.2.2.2.1,x.2.2.2.2.2.1,x.2.2.2.2.2.2.1),x.2.2.2.2.2.2.2.1,x.2.2.2.2.2.2.2.2.1,x.2.2.2.2.2.2.2.2.2.1) k/\x.2.2.2.2.2.2.2.2.2.2.length<=k) (fun x=>x.1.toNat)
  ⟨0,hr.2.1,by simp only; omega,hr.1,qyj hn,by simp⟩ ?_
 rintro⟨i,s',q',d1,d2,d3,d4,tl,ac,ct,l⟩ ⟨k,h1,h2,h3,h4,h6⟩
 simp only at h1 h2 h3 h4 h6;show Ok (qht n i s' q' d1 d2 d3 d4 tl ac ct l) _;unfold qht;have up:∀ {c:Cn} {j:Nat},CnI n c j->j<=10->CnI n c 10:=fun h hj=>⟨h.d,zG h.t hj,h.tv,h.srt,zG h.a hj,h.n0,by have:=h.n1; omega⟩
 refine Ok.bif (fun hc=>?_) fun hc=>.ret ⟨h3,by simp only; omega,up h4 (by omega)⟩
 have hc:=zi hc;have hcs:=h4.cns hn (by omega)
 have n0:=h4.n0; have n1:=h4.n1;simp only at n0 n1;rw[qa9];refine Ok.bind (qDj hn (c:=((d1,d2,d3,d4),tl,ac,ct)) hcs.d.v h3) fun z hz=>?_
 obtain⟨hq,hp⟩:=hz;refine Ok.eq (qtB n (c:=((d1,d2,d3,d4),tl,ac,ct)) hcs h4.srt (by simp only; omega) z.1 (by have:=hp.v; omega) (by have:=hp.h; omega)) ?_
 rw[wi (by omega)]
 by_cases hz:(capp n ((d1,d2,d3,d4),tl,ac,ct) z.1).2=0
 ·rw[dec_t hz,za];refine Ok.bind (Ok.gd (qaw (by omega)) (.ret rfl)) fun y hy=>.ret ?_
  subst hy;exact⟨⟨k+1,by simp only; omega,by simp only; omega,hq,(qsE h4 (by omega) hp hz).1,by simp only[zd,zI]; omega⟩,by simp only; omega⟩
 ·rw[dec_f hz,zb];exact .ret ⟨⟨k,by simp only; omega,by simp only; omega,hq,h4,h6⟩,by simp only; omega⟩
theorem qCI{n:Net}(h0:qbb n=0){l:List Rec}(hl:l.length<=20):Ok (iter (fun x2:Str×Int×List Rec=>qgK n x2.1 x2.2.1 x2.2.2) ([],0,l)) fun t=>∃rs,RcB n rs/\rs.length<=l.length/\t=qcl n rs:=by
 have h:=NmP.of h0;refine Ok.loop (fun x:Str×Int×List Rec=>∃(k:Nat) (rs:List Rec),x.2.1=(k:Int)/\k<=l.length/\x.2.2=l/\RcB n rs/\rs.length<=k/\x.1=qcl n rs) (fun x=>((l.length:Int)-x.2.1).toNat) ⟨0,[],rfl,by omega,rfl,fun x hx=>(by cases hx),by simp,rfl⟩ ?_
 rintro⟨t,_,l'⟩ ⟨k,rs,rfl,h1,h2,h3,h4,h5⟩
 replace h2:l'=l:=h2;replace h5:t=qcl n rs:=h5;subst h2 h5;show Ok (qgK n (qcl n rs) (k:Int) l') _;unfold qgK;refine Ok.bif (fun hc=>?_) fun hc=>.ret ⟨rs,h3,by omega,rfl⟩
 have hc:=zi hc;have hk:k<l'.length:=by omega
 refine Ok.gd (inB_t hk) ?_
 refine Ok.eq (qy4 h0 _) ?_
 rw[w1 hk (by omega),z9]
 generalize l'.getD k r0=r;unfold fmtS;cases hB:recB n r
 ·exact .ret ⟨⟨k+1,rs,rfl,hk,rfl,h3,zz1 h4,rfl⟩,by simp only; omega⟩
 ·have hlen:=qnb h h3;have:=(qql h hB).2.1;refine Ok.bind (Q:=fun z=>z=(qcl n (rs++[r]),l')) (Ok.gd (ble_t ?_) (.ret ?_)) fun z hz=>.ret ?_
  ·show _+(joinS (recV n r)++[10]).length<=_;rw[zd,zI]; omega
  ·rw[qy6];refine Prod.ext ?_ rfl
   show _++(joinS (recV n r)++[10])=_++qcl n [r];rw[qd7]; rfl
  ·subst hz;refine⟨⟨k+1,rs++[r],rfl,hk,rfl,fun x hx=>?_,by rw[zd,zI]; omega,rfl⟩,by simp only; omega⟩
   rcases zD.1 hx with hx | hx
   ·exact h3 x hx
   ·rw[zW.1 hx]; exact hB
theorem qCJ{n:Net}(hn:GN n)(h0:qbb n=0){s:List Int}{q:Int}(h:SrcOk s q):Ok (qkK n s q) fun z=>SrcOk z.2.1 z.2.2/\∃rs,RcB n rs/\rs.length<=12/\z.1=qcl n rs:=by
 unfold qkK;refine Ok.bind (qBo hn h0 (m:=10) (by omega) h) ?_
 rintro⟨c,s2,q2,l⟩ ⟨h1,h2,h3⟩
 replace h2:l.length<=10:=h2;simp only at h1 h3;have hcs:=h3.cns hn (by omega)
 refine Ok.bind (sN h1 (n:=3) (by omega) (by omega)) fun r2 hr2=>?_
 refine Ok.bind (Q:=fun z:List Int×Int×List Rec=>SrcOk z.1 z.2.1/\z.2.2.length<=12) ?_ ?_
 ·refine Ok.loop (fun x:Int×List Int×Int×List Rec=>0<=x.1/\x.1+x.2.2.2.length<=12/\SrcOk x.2.1 x.2.2.1) (fun x=>x.1.toNat) ⟨hr2.2.1,by simp only; omega,hr2.1⟩ ?_
  rintro⟨i,s3,q3,l3⟩ ⟨g1,g2,g3⟩
  simp only at g1 g2 g3;show Ok (qjr n (c,s2,q2,l) i s3 q3 l3) _;unfold qjr;refine Ok.bif (fun hc=>?_) fun hc=>.ret ⟨g3,by simp only; omega⟩
  have hc:=zi hc;refine Ok.bind (qDj hn (c:=c) hcs.d.v g3) fun z hz=>?_
  refine Ok.gd (qaw (by omega)) (.ret ?_)
  rw[wi (by omega)]
  exact⟨⟨by simp only; omega,by simp only[zd,zI]; omega,hz.1⟩,by simp only; omega⟩
 rintro⟨s5,q5,l5⟩ ⟨g1,g2⟩
 simp only at g1 g2;refine Ok.bind (qCI h0 (l:=l5) (by omega)) ?_
 rintro t ⟨rs,e1,e2,e3⟩
 exact .ret ⟨g1,rs,e1,by omega,e3⟩
end Go.Proofs.YtmdijohmddokhaaGreatDoor
namespace Go.Proofs.YtmdijohmddokhaaGreatDoor
open Go Go.Sq
set_option linter.unusedVariables false
structure StI(n:Net)(c:Cn)(k:Nat):Prop where
 ci:CnI n c k
 d:qdn n c.1=0
theorem StI.put{n:Net}{c:Cn}{r:Rec}{k:Nat}(h:StI n c k)(hk:k<=1000)(hB:recB n r=true)(h0:(capp n c r).2=0):StI n (capp n c r).1 (k+1):=⟨(qsE h.ci (by omega) (qBl hB) h0).1,qA7 h.d h0⟩
theorem qFc{n:Net}(hg:GN n)(h0:qbb n=0):StI n (st0 n) 0:=⟨qyj hg,qA6 h0 (by omega)⟩
theorem qBp{n:Net}:∀(t:List Rec) (k:Nat) {c:Cn},RcB n t->k+t.length<=1000->StI n c k->∃j,j<=k+t.length/\StI n (runC n t k c).1 j
 | [],k,c,_,_,h=>⟨k,by omega,h⟩
 | r::t,k,c,hb,hl,h=>by
  rw[zg] at hl;unfold runC;by_cases h0:(capp n c r).2=0
  ·rw[if_pos h0];obtain⟨j,h1,h2⟩:=qBp t (k+1) hb.tl.2 (by omega) (h.put (by omega) hb.tl.1 h0)
   exact⟨j,by rw[zg]; omega,h2⟩
  ·rw[if_neg h0];exact⟨k,by omega,h⟩
theorem qFd{n:Net}(hg:GN n)(h0:qbb n=0){rs:List Rec}(hb:RcB n rs)(hl:rs.length<=25):qil n 1 (qcl n rs)=some (runC n rs 0 (st0 n)):=by
 refine ok_eq ?_
 unfold qil;refine Ok.eq (qyg h0 hb hl) (Ok.eq (qFb hg h0) ?_)
 refine Ok.bind (qyi hg hb (by omega) rs 0 (st0 n) rfl (by omega) (qyj hg)) fun s hs=>?_
 cases s with
 | inl s=>exact .ret hs
 | inr s=>exact .ret hs
noncomputable def runB(n:Net):List Rec->Nat->Int×Int×Cn->Int×Int×Cn
 | [],_,x=>x
 | r::t,k,x=>if x.2.1=0 then(if(capp n x.2.2 r).2=0 then runB n t (k+1) (x.1,x.2.1,(capp n x.2.2 r).1) else runB n t (k+1) (((k+1:Nat):Int),(capp n x.2.2 r).2,x.2.2)) else runB n t (k+1) x
theorem qyk(n:Net):∀(t:List Rec) (k:Nat) (x:Int×Int×Cn),x.2.1≠0->runB n t k x=x
 | [],_,_,_=>rfl
 | r::t,k,x,h=>by
  unfold runB;rw[if_neg h];exact qyk n t (k+1) x h
theorem qyl(n:Net):∀(t:List Rec) (k:Nat) (c:Cn),runB n t k (0,0,c)=((runC n t k c).2.1,(runC n t k c).2.2,(runC n t k c).1)
 | [],_,_=>rfl
 | r::t,k,c=>by
  unfold runB runC;rw[if_pos rfl];by_cases h0:(capp n c r).2=0
  ·rw[if_pos h0,if_pos h0];exact qyl n t (k+1) _
  ·rw[if_neg h0,if_neg h0];exact qyk n t (k+1) _ h0
theorem qwa{n:Net}(hg:GN n)(h0:qbb n=0)(r4:Net×List Int×Int)(e4:r4.1=n){rs:List Rec}(hb:RcB n rs)(hl:rs.length<=25):∀(t:List Rec) (k:Nat) (A:Str) (E L:Int) (c:Cn),rs.drop k=t->k<=rs.length->A.length<=1000*k->CnI n c k->
  iter (fun x:Str×Int×Int×Int×List Vl×List Int×List Int×List Bool×List Tel×List Acc4×Int=>qbu r4 (rs,0,0) x.1 x.2.1 x.2.2.1 x.2.2.2.1 x.2.2.2.2.1 x.2.2.2.2.2.1 x.2.2.2.2.2.2.1 x.2.2.2.2.2.2.2.1 x.2.2.2.2.2.2.2.2.1 x.2.2.2.2.2.2.2.2.2.1 x.2.2.2.2.2.2.2.2.2.2)
   (A,E,L,(k:Int),c.1.1,c.1.2.1,c.1.2.2.1,c.1.2.2.2,c.2.1,c.2.2.1,c.2.2.2)=
  some (.inl (A++qcl n t,(runB n t k (E,L,c)).1,(runB n t k (E,L,c)).2.1,(runB n t k (E,L,c)).2.2.1.1,(runB n t k (E,L,c)).2.2.1.2.1,(runB n t k (E,L,c)).2.2.1.2.2.1,(runB n t k (E,L,c)).2.2.1.2.2.2,(runB n t k (E,L,c)).2.2.2.1,(runB n t k (E,L,c)).2.2.2.2.1,(runB n t k (E,L,c)).2.2.2.2.2))
 | [],k,A,E,L,c,he,hk,hA,hi=>by
  have hk:=qyh he hk;refine qaV ?_
  show qbu r4 (rs,0,0) A E L (k:Int) _ _ _ _ _ _ _=_;unfold qbu;rw[dec_f (by simp only; omega)]
  rw[show qcl n []=[] from rfl,zM]; rfl
 | r::t,k,A,E,L,c,he,hk,hA,hi=>by
  subst e4;obtain⟨h1,h2,h3⟩:=qBm (d:=r0) he;have hB:recB r4.1 r=true:=hb r (by rw[<-h2]; exact gmem h1)
  have hr:=qBl hB;have hN:=NmP.of h0;have hll:=(qql hN hB).2.1;have ha:qgn r4.1 c r=some (capp r4.1 c r):=qtB r4.1 (hi.cns hg (by omega)) hi.srt ⟨hi.n0,by have:=hi.n1; omega⟩ r (by have:=hr.v; omega) (by have:=hr.h; omega)
  have hf:qeO r4.1 r=some (joinS (recV r4.1 r)++[10],0):=by
   rw[qBh h0 (qu1 hN.nb hB)];unfold fmtS;rw[hB]; rfl
  have hs:∀z:Int×Int×Cn,(if L=0 then(if(capp r4.1 c r).2=0 then(E,L,(capp r4.1 c r).1) else(((k+1:Nat):Int),(capp r4.1 c r).2,c)) else(E,L,c))=z->
    qbu r4 (rs,0,0) A E L (k:Int) c.1.1 c.1.2.1 c.1.2.2.1 c.1.2.2.2 c.2.1 c.2.2.1 c.2.2.2=
     some (.inl (A++(joinS (recV r4.1 r)++[10]),z.1,z.2.1,((k+1:Nat):Int),z.2.2.1.1,z.2.2.1.2.1,z.2.2.1.2.2.1,z.2.2.1.2.2.2,z.2.2.2.1,z.2.2.2.2.1,z.2.2.2.2.2)):=by
   intro z hz;subst hz;refine ok_eq ?_
   unfold qbu;rw[dec_t (by simp only; omega),w1 h1 (by omega)]
   simp only[z9];rw[h2];refine Ok.gd (inB_t h1) (Ok.eq hf (Ok.gd (ble_t ?_) ?_))
   ·show A.length+(joinS (recV r4.1 r)++[10]).length<=_;rw[zd,zI]; omega
   by_cases hL:L=0
   ·rw[dec_t hL,if_pos hL];by_cases hz:(capp r4.1 c r).2=0
    ·rw[if_pos hz];refine Ok.eq (a:=(E,L,(capp r4.1 c r).1.1.1,(capp r4.1 c r).1.1.2.1,(capp r4.1 c r).1.1.2.2.1,(capp r4.1 c r).1.1.2.2.2,(capp r4.1 c r).1.2.1,(capp r4.1 c r).1.2.2.1,(capp r4.1 c r).1.2.2.2)) (ok_eq (Ok.gd (inB_t h1) (Ok.eq ha ?_))) (.ret rfl)
     rw[dec_t hz]; exact .ret rfl
    ·rw[if_neg hz];refine Ok.eq (a:=(((k+1:Nat):Int),(capp r4.1 c r).2,c.1.1,c.1.2.1,c.1.2.2.1,c.1.2.2.2,c.2.1,c.2.2.1,c.2.2.2)) (ok_eq (Ok.gd (inB_t h1) (Ok.eq ha ?_))) (.ret rfl)
     rw[dec_f hz]; exact .ret rfl
   ·rw[dec_f hL,if_neg hL]; exact .ret rfl
  have nx:=fun(E' L':Int) (c':Cn) (hc':CnI r4.1 c' (k+1))=>qwa hg h0 r4 rfl hb hl t (k+1) (A++(joinS (recV r4.1 r)++[10])) E' L' c' h3 h1 (by simp only[zd,zI]; omega) hc'
  have hx:(A++(joinS (recV r4.1 r)++[10]))++qcl r4.1 t=A++qcl r4.1 (r::t):=by rw[qd7,zu,zu]; rfl
  unfold runB;by_cases hL:L=0
  ·by_cases hz:(capp r4.1 c r).2=0
   ·refine(qbp (hs (E,L,(capp r4.1 c r).1) (by rw[if_pos hL,if_pos hz]))).trans ((nx E L _ (qsE hi (by omega) hr hz).1).trans ?_)
    rw[hx,if_pos hL,if_pos hz]
   ·refine(qbp (hs (((k+1:Nat):Int),(capp r4.1 c r).2,c) (by rw[if_pos hL,if_neg hz]))).trans ((nx _ _ c hi.up).trans ?_)
    rw[hx,if_pos hL,if_neg hz]
  ·refine(qbp (hs (E,L,c) (by rw[if_neg hL]))).trans ((nx E L c hi.up).trans ?_)
   rw[hx,if_neg hL]
theorem qBq{l:List Int}(hl:∀x∈l,i64P x)(cut:Int):qgr l cut=some true:=by
 refine Ok.true ?_
 have hw:Ok qim (fun b=>b=true):=⟨true,qyR,rfl⟩
 unfold qgr;refine Ok.eq (qEY l) (Ok.bif (fun _=>Ok.bind hw fun b hb=>.ret hb) fun _=>?_)
 obtain⟨s,e,hs⟩:=qEG hl;refine Ok.eq e ?_
 refine Ok.bind (qEJ hs) ?_
 rintro⟨n,s2,q2⟩ ⟨e,h,k,hn⟩
 replace e:s2=s:=e;subst e;simp only at h hn;have hg:=GN.of hn;have h0:=chk0 hn;refine Ok.bind (qCJ hg h0 h) ?_
 rintro⟨t,s3,q3⟩ ⟨_,rs,hb,hl,ht⟩
 replace ht:t=qcl n rs:=ht;subst ht;refine Ok.eq (qyg h0 hb (by omega)) (Ok.eq (a:=false) rfl ?_)
 refine Ok.eq (qBn hg h0) ?_
 have hB:=qwa hg h0 (n,s2,q2) rfl hb (by omega) rs 0 [] 0 0 (st0 n) rfl (by omega) (by simp) (qyj hg)
 rw[qyl] at hB;obtain⟨j,hj,hst⟩:=qBp rs 0 hb (by omega) (qFc hg h0)
 have hcs:=hst.ci.cns hg (by omega)
 show Ok (Option.bind _ _) _;refine Ok.eq hB ?_
 refine Ok.eq (qFd hg h0 hb (by omega)) ?_
 rw[dec_t (show([]++qcl n rs=qcl n rs) from rfl)]
 simp only[z82,za];refine Ok.eq (sameC hcs) ?_
 rw[za];refine Ok.eq (qtv n _) ?_
 rw[show qdn n _=0 from hst.d]
 exact Ok.bind hw fun b hb=>.ret hb
end Go.Proofs.YtmdijohmddokhaaGreatDoor
