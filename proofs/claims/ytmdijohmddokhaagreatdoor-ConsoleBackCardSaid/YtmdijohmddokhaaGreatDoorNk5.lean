/- Searches in lists. No condition. -/
import Derived.Test.YtmdijohmddokhaaGreatDoorLa2
namespace Go.Proofs.YtmdijohmddokhaaGreatDoor
open Go Go.Sq
theorem qyS{A:Type}(l:List A)(d:A)(p:A->Bool)(i:Nat)(hi:i<=l.length):decide (l.findIdx p<i)=(List.range i).any fun k=>p (l.getD k d):=by
 rw[zU,zy,zp2];constructor
 ·intro h;have hl:l.findIdx p<l.length:=by omega
  exact⟨_,zK.2 h,by rw[gD_eq hl]; exact List.findIdx_getElem (w:=hl)⟩
 ·rintro⟨k,hk,hp⟩
  have hk:=zK.1 hk;refine Nat.lt_of_not_le fun hle=>?_
  have:=List.not_of_lt_findIdx (p:=p) (xs:=l) (i:=k) (by omega)
  rw[gD_eq (by omega)] at hp
  exact absurd hp (by simpa using this)
theorem qfk{A:Type}(l:List A)(p:A->Bool):decide (l.findIdx p<l.length)=l.any p:=by
 rw[zU,zy,za2,zp2]
theorem scanN{ε:Type}(n:Nat){step:Int->Option (Int⊕ε)}(q:Nat->Bool){fin bad:ε}
  (h1:∀i,i<n->q i=false->step (i:Int)=some (.inl ((i+1:Nat):Int)))
  (h2:∀i,i<n->q i=true->step (i:Int)=some (.inr bad)) (h3:step (n:Int)=some (.inr fin)):iter step 0=some (bif (List.range n).any q then bad else fin):=by
 have:=qa1 (step:=step) n (fun i=>(i:Int)) (fun i=>!q i) (fin:=fin) (bad:=bad) (fun i hi _ hq=>h1 i hi (by simpa using hq)) (fun i hi _ hq=>h2 i hi (by simpa using hq)) (fun _=>h3)
 have e:(List.range n).all (fun i=>!q i)=!(List.range n).any q:=by simp[z51]
 rw[e] at this;refine this.trans ?_
 cases(List.range n).any q <;> rfl
end Go.Proofs.YtmdijohmddokhaaGreatDoor
namespace Go.Proofs.YtmdijohmddokhaaGreatDoor
open Go Go.Sq
theorem qd3(s:List (List UInt8×Int×Int×Int×Int×Int×List (Int×Int×Int)))(p:(List UInt8×Int×Int×Int×Int×Int×List (Int×Int×Int))->Bool)(f:(List UInt8×Int×Int×Int×Int×Int×List (Int×Int×Int))×Unit->Option Bool)(hf:∀x∈s,f (x,())=some (p x))(hl:s.length<=1000000):qar s f=some (if s.findIdx p<s.length then((s.findIdx p:Nat):Int) else -1):=by
 unfold qar;have h:iter (fun x=>qaf s f x) 0=some (if s.findIdx p<s.length then .inr ((s.findIdx p:Nat):Int) else .inl ()):=by
  refine qf4 (step:=fun y=>qaf s f y) (ε:=Unit⊕Int) s ([],0,0,0,0,0,[]) p (fin:=.inl ()) (fun i=>.inr (i:Int)) (fun i hi hq=>?_) (fun i hi hq=>?_) ?_
  ·unfold qaf;rw[dec_t (show(i:Int)<(s.length:Int) by omega),za,gd_t (inB_t hi),z9,hf _ (qbe hi),z7,hq,zb,w1 hi (by omega)]
  ·unfold qaf;rw[dec_t (show(i:Int)<(s.length:Int) by omega),za,gd_t (inB_t hi),z9,hf _ (qbe hi),z7,hq,za]
  ·unfold qaf;rw[dec_f (by omega)]; rfl
 rw[h,z7];by_cases hf:s.findIdx p<s.length
 ·rw[if_pos hf,if_pos hf]; rfl
 ·rw[if_neg hf,if_neg hf]; rfl
theorem qd4(s:List (List UInt8×Int×Int×Int×Int×Int×List (Int×Int×Int)))(p:(List UInt8×Int×Int×Int×Int×Int×List (Int×Int×Int))->Bool)(f:(List UInt8×Int×Int×Int×Int×Int×List (Int×Int×Int))×Unit->Option Bool)(hf:∀x∈s,f (x,())=some (p x))(hl:s.length<=1000000):qam s f=some (s.any p):=by
 unfold qam;rw[qd3 s p f hf hl,z7,<-qfk];by_cases hf:s.findIdx p<s.length
 ·rw[if_pos hf,dec_t hf,dec_t (by omega)]
 ·rw[if_neg hf,dec_f hf,dec_f (by omega)]
theorem qqe(s:List (List UInt8))(p:(List UInt8)->Bool)(f:(List UInt8)×Unit->Option Bool)(hf:∀x∈s,f (x,())=some (p x))(hl:s.length<=1000000):qbf s f=some (if s.findIdx p<s.length then((s.findIdx p:Nat):Int) else -1):=by
 unfold qbf;have h:iter (fun x=>qax s f x) 0=some (if s.findIdx p<s.length then .inr ((s.findIdx p:Nat):Int) else .inl ()):=by
  refine qf4 (step:=fun y=>qax s f y) (ε:=Unit⊕Int) s [] p (fin:=.inl ()) (fun i=>.inr (i:Int)) (fun i hi hq=>?_) (fun i hi hq=>?_) ?_
  ·unfold qax;rw[dec_t (show(i:Int)<(s.length:Int) by omega),za,gd_t (inB_t hi),z9,hf _ (qbe hi),z7,hq,zb,w1 hi (by omega)]
  ·unfold qax;rw[dec_t (show(i:Int)<(s.length:Int) by omega),za,gd_t (inB_t hi),z9,hf _ (qbe hi),z7,hq,za]
  ·unfold qax;rw[dec_f (by omega)]; rfl
 rw[h,z7];by_cases hf:s.findIdx p<s.length
 ·rw[if_pos hf,if_pos hf]; rfl
 ·rw[if_neg hf,if_neg hf]; rfl
theorem qj1(s:List (List UInt8))(p:(List UInt8)->Bool)(f:(List UInt8)×Unit->Option Bool)(hf:∀x∈s,f (x,())=some (p x))(hl:s.length<=1000000):qay s f=some (s.any p):=by
 unfold qay;rw[qqe s p f hf hl,z7,<-qfk];by_cases hf:s.findIdx p<s.length
 ·rw[if_pos hf,dec_t hf,dec_t (by omega)]
 ·rw[if_neg hf,dec_f hf,dec_f (by omega)]
theorem qcu(s:List (List UInt8×Int×Int×Int×Int))(p:(List UInt8×Int×Int×Int×Int)->Bool)(f:(List UInt8×Int×Int×Int×Int)×Unit->Option Bool)(hf:∀x∈s,f (x,())=some (p x))(hl:s.length<=1000000):qaa s f=some (if s.findIdx p<s.length then((s.findIdx p:Nat):Int) else -1):=by
 unfold qaa;have h:iter (fun x=>qag s f x) 0=some (if s.findIdx p<s.length then .inr ((s.findIdx p:Nat):Int) else .inl ()):=by
  refine qf4 (step:=fun y=>qag s f y) (ε:=Unit⊕Int) s ([],0,0,0,0) p (fin:=.inl ()) (fun i=>.inr (i:Int)) (fun i hi hq=>?_) (fun i hi hq=>?_) ?_
  ·unfold qag;rw[dec_t (show(i:Int)<(s.length:Int) by omega),za,gd_t (inB_t hi),z9,hf _ (qbe hi),z7,hq,zb,w1 hi (by omega)]
  ·unfold qag;rw[dec_t (show(i:Int)<(s.length:Int) by omega),za,gd_t (inB_t hi),z9,hf _ (qbe hi),z7,hq,za]
  ·unfold qag;rw[dec_f (by omega)]; rfl
 rw[h,z7];by_cases hf:s.findIdx p<s.length
 ·rw[if_pos hf,if_pos hf]; rfl
 ·rw[if_neg hf,if_neg hf]; rfl
theorem qiH(s:List (List UInt8×Int×Int×Int×Int))(p:(List UInt8×Int×Int×Int×Int)->Bool)(f:(List UInt8×Int×Int×Int×Int)×Unit->Option Bool)(hf:∀x∈s,f (x,())=some (p x))(hl:s.length<=1000000):qaC s f=some (s.any p):=by
 unfold qaC;rw[qcu s p f hf hl,z7,<-qfk];by_cases hf:s.findIdx p<s.length
 ·rw[if_pos hf,dec_t hf,dec_t (by omega)]
 ·rw[if_neg hf,dec_f hf,dec_f (by omega)]
theorem qwZ(s:List (Int))(p:(Int)->Bool)(f:(Int)×Unit->Option Bool)(hf:∀x∈s,f (x,())=some (p x))(hl:s.length<=1000000):qbV s f=some (if s.findIdx p<s.length then((s.findIdx p:Nat):Int) else -1):=by
 unfold qbV;have h:iter (fun x=>qaK s f x) 0=some (if s.findIdx p<s.length then .inr ((s.findIdx p:Nat):Int) else .inl ()):=by
  refine qf4 (step:=fun y=>qaK s f y) (ε:=Unit⊕Int) s 0 p (fin:=.inl ()) (fun i=>.inr (i:Int)) (fun i hi hq=>?_) (fun i hi hq=>?_) ?_
  ·unfold qaK;rw[dec_t (show(i:Int)<(s.length:Int) by omega),za,gd_t (inB_t hi),z9,hf _ (qbe hi),z7,hq,zb,w1 hi (by omega)]
  ·unfold qaK;rw[dec_t (show(i:Int)<(s.length:Int) by omega),za,gd_t (inB_t hi),z9,hf _ (qbe hi),z7,hq,za]
  ·unfold qaK;rw[dec_f (by omega)]; rfl
 rw[h,z7];by_cases hf:s.findIdx p<s.length
 ·rw[if_pos hf,if_pos hf]; rfl
 ·rw[if_neg hf,if_neg hf]; rfl
theorem qom(s:List (Int))(p:(Int)->Bool)(f:(Int)×Unit->Option Bool)(hf:∀x∈s,f (x,())=some (p x))(hl:s.length<=1000000):qaE s f=some (s.any p):=by
 unfold qaE;rw[qwZ s p f hf hl,z7,<-qfk];by_cases hf:s.findIdx p<s.length
 ·rw[if_pos hf,dec_t hf,dec_t (by omega)]
 ·rw[if_neg hf,dec_f hf,dec_f (by omega)]
theorem qhc(s:List (List UInt8×Int×Int))(p:(List UInt8×Int×Int)->Bool)(f:(List UInt8×Int×Int)×Unit->Option Bool)(hf:∀x∈s,f (x,())=some (p x))(hl:s.length<=1000000):qaF s f=some (if s.findIdx p<s.length then((s.findIdx p:Nat):Int) else -1):=by
 unfold qaF;have h:iter (fun x=>qan s f x) 0=some (if s.findIdx p<s.length then .inr ((s.findIdx p:Nat):Int) else .inl ()):=by
  refine qf4 (step:=fun y=>qan s f y) (ε:=Unit⊕Int) s ([],0,0) p (fin:=.inl ()) (fun i=>.inr (i:Int)) (fun i hi hq=>?_) (fun i hi hq=>?_) ?_
  ·unfold qan;rw[dec_t (show(i:Int)<(s.length:Int) by omega),za,gd_t (inB_t hi),z9,hf _ (qbe hi),z7,hq,zb,w1 hi (by omega)]
  ·unfold qan;rw[dec_t (show(i:Int)<(s.length:Int) by omega),za,gd_t (inB_t hi),z9,hf _ (qbe hi),z7,hq,za]
  ·unfold qan;rw[dec_f (by omega)]; rfl
 rw[h,z7];by_cases hf:s.findIdx p<s.length
 ·rw[if_pos hf,if_pos hf]; rfl
 ·rw[if_neg hf,if_neg hf]; rfl
theorem qmx(s:List (List UInt8×Int×Int))(p:(List UInt8×Int×Int)->Bool)(f:(List UInt8×Int×Int)×Unit->Option Bool)(hf:∀x∈s,f (x,())=some (p x))(hl:s.length<=1000000):qaJ s f=some (s.any p):=by
 unfold qaJ;rw[qhc s p f hf hl,z7,<-qfk];by_cases hf:s.findIdx p<s.length
 ·rw[if_pos hf,dec_t hf,dec_t (by omega)]
 ·rw[if_neg hf,dec_f hf,dec_f (by omega)]
theorem qkL(s:List (Int×Int×Bool×Bool))(p:(Int×Int×Bool×Bool)->Bool)(f:(Int×Int×Bool×Bool)×Unit->Option Bool)(hf:∀x∈s,f (x,())=some (p x))(hl:s.length<=1000000):qaM s f=some (if s.findIdx p<s.length then((s.findIdx p:Nat):Int) else -1):=by
 unfold qaM;have h:iter (fun x=>qal s f x) 0=some (if s.findIdx p<s.length then .inr ((s.findIdx p:Nat):Int) else .inl ()):=by
  refine qf4 (step:=fun y=>qal s f y) (ε:=Unit⊕Int) s (0,0,false,false) p (fin:=.inl ()) (fun i=>.inr (i:Int)) (fun i hi hq=>?_) (fun i hi hq=>?_) ?_
  ·unfold qal;rw[dec_t (show(i:Int)<(s.length:Int) by omega),za,gd_t (inB_t hi),z9,hf _ (qbe hi),z7,hq,zb,w1 hi (by omega)]
  ·unfold qal;rw[dec_t (show(i:Int)<(s.length:Int) by omega),za,gd_t (inB_t hi),z9,hf _ (qbe hi),z7,hq,za]
  ·unfold qal;rw[dec_f (by omega)]; rfl
 rw[h,z7];by_cases hf:s.findIdx p<s.length
 ·rw[if_pos hf,if_pos hf]; rfl
 ·rw[if_neg hf,if_neg hf]; rfl
theorem qkM(s:List (Int×Int×Bool×Bool))(p:(Int×Int×Bool×Bool)->Bool)(f:(Int×Int×Bool×Bool)×Unit->Option Bool)(hf:∀x∈s,f (x,())=some (p x))(hl:s.length<=1000000):qas s f=some (s.any p):=by
 unfold qas;rw[qkL s p f hf hl,z7,<-qfk];by_cases hf:s.findIdx p<s.length
 ·rw[if_pos hf,dec_t hf,dec_t (by omega)]
 ·rw[if_neg hf,dec_f hf,dec_f (by omega)]
theorem qon(s:List (Int×Bool))(p:(Int×Bool)->Bool)(f:(Int×Bool)×Unit->Option Bool)(hf:∀x∈s,f (x,())=some (p x))(hl:s.length<=1000000):qa3 s f=some (if s.findIdx p<s.length then((s.findIdx p:Nat):Int) else -1):=by
 unfold qa3;have h:iter (fun x=>qaq s f x) 0=some (if s.findIdx p<s.length then .inr ((s.findIdx p:Nat):Int) else .inl ()):=by
  refine qf4 (step:=fun y=>qaq s f y) (ε:=Unit⊕Int) s (0,false) p (fin:=.inl ()) (fun i=>.inr (i:Int)) (fun i hi hq=>?_) (fun i hi hq=>?_) ?_
  ·unfold qaq;rw[dec_t (show(i:Int)<(s.length:Int) by omega),za,gd_t (inB_t hi),z9,hf _ (qbe hi),z7,hq,zb,w1 hi (by omega)]
  ·unfold qaq;rw[dec_t (show(i:Int)<(s.length:Int) by omega),za,gd_t (inB_t hi),z9,hf _ (qbe hi),z7,hq,za]
  ·unfold qaq;rw[dec_f (by omega)]; rfl
 rw[h,z7];by_cases hf:s.findIdx p<s.length
 ·rw[if_pos hf,if_pos hf]; rfl
 ·rw[if_neg hf,if_neg hf]; rfl
theorem qoo(s:List (Int×Bool))(p:(Int×Bool)->Bool)(f:(Int×Bool)×Unit->Option Bool)(hf:∀x∈s,f (x,())=some (p x))(hl:s.length<=1000000):qaS s f=some (s.any p):=by
 unfold qaS;rw[qon s p f hf hl,z7,<-qfk];by_cases hf:s.findIdx p<s.length
 ·rw[if_pos hf,dec_t hf,dec_t (by omega)]
 ·rw[if_neg hf,dec_f hf,dec_f (by omega)]
end Go.Proofs.YtmdijohmddokhaaGreatDoor
namespace Go.Proofs.YtmdijohmddokhaaGreatDoor
open Go Go.Sq
set_option linter.unusedVariables false
abbrev pt0:Pt:=(0,0,0)
abbrev sg0:Seg:=([],0,0,0,0,0,[])
abbrev po0:Port:=([],0,0)
abbrev sta0:Stat:=([],0,0,0,0)
def rg(lo hi n:Int):Bool:=decide (lo<=n)&&decide (n<=hi)
def limB(n:Net):Bool:=Nat.ble 1 n.1.length&&(Nat.ble n.1.length 24&&(Nat.ble n.2.1.length 32&&(Nat.ble n.2.2.1.length 24&&Nat.ble n.2.2.2.1.length 12)))&&n.2.1.all fun s=>Nat.ble 2 s.2.2.2.2.2.2.length&&Nat.ble s.2.2.2.2.2.2.length 8
def nmsOf(n:Net):List (List Str):=[n.1,n.2.1.map (·.1),n.2.2.1.map (·.1),n.2.2.2.1.map (·.1)]
def formB(n:Net):Bool:=(nmsOf n).all fun l=>l.all nameB
def twL(l:List Str):Bool:=(List.range l.length).any fun i=>(List.range i).any fun k=>decide (l.getD i []=l.getD k [])
def twS(l:List Stat):Bool:=(List.range l.length).any fun i=>(List.range i).any fun k=>decide ((l.getD k sta0).2.1=(l.getD i sta0).2.1)
def twB(n:Net):Bool:=(nmsOf n).any twL || twS n.2.2.2.1
def kn(n:Net)(k:Int):Bool:=decide (0<=k)&&decide (k<(n.1.length:Int))
def knB(n:Net):Bool:=n.2.1.all (fun s=>kn n s.2.1&&kn n s.2.2.1)&&(n.2.2.1.all (fun p=>kn n p.2.1)&&n.2.2.2.1.all (fun s=>kn n s.2.1))
def ptB(l:List Pt)(i:Nat):Bool:=rg (-500) 5000 (l.getD i pt0).2.1&&(rg 0 100000000 (l.getD i pt0).2.2&&(Nat.beq i 0 || decide ((l.getD (i-1) pt0).1<(l.getD i pt0).1)))
def pipeB(s:Seg):Bool:=!decide (s.2.1=s.2.2.1)&&(rg 1 1000000 s.2.2.2.1&&(rg 0 1000 s.2.2.2.2.1&&rg 0 100000 s.2.2.2.2.2.1))&&((List.range s.2.2.2.2.2.2.length).all (ptB s.2.2.2.2.2.2)&&(decide ((s.2.2.2.2.2.2.getD 0 pt0).1=0)&&decide ((s.2.2.2.2.2.2.getD (s.2.2.2.2.2.2.length-1) pt0).1=s.2.2.2.1)))
def stB(s:Stat):Bool:=rg 0 100000000 s.2.2.1&&(rg 0 100000 s.2.2.2.1&&rg 0 100000000 s.2.2.2.2)
def prB(n:Net):Bool:=n.2.1.all pipeB&&(n.2.2.1.all (fun p=>rg 0 100000000 p.2.2)&&(n.2.2.2.1.all stB&&(rg (-100000) 100000000 n.2.2.2.2.1&&rg 0 100 n.2.2.2.2.2)))
def qbb(n:Net):Int:=bif limB n then(bif formB n then(bif twB n then 7 else bif knB n then(bif prB n then 0 else 9) else 8) else 3) else 4
structure Small(n:Net):Prop where
 no1:1<=n.1.length
 no:n.1.length<=24
 sg:n.2.1.length<=32
 po:n.2.2.1.length<=24
 st:n.2.2.2.1.length<=12
 pt:∀s∈n.2.1,2<=s.2.2.2.2.2.2.length/\s.2.2.2.2.2.2.length<=8
theorem qq8(n:Net):limB n=true↔Small n:=by
 unfold limB;simp only[z8,zb1,zm];constructor
 ·rintro⟨⟨h1,h2,h3,h4,h5⟩,h6⟩; exact⟨h1,h2,h3,h4,h5,h6⟩
 ·rintro⟨h1,h2,h3,h4,h5,h6⟩; exact⟨⟨h1,h2,h3,h4,h5⟩,h6⟩
theorem qj2(n lo hi:Int):qbW n lo hi=some (rg lo hi n):=by
 unfold qbW rg;cases decide (lo<=n) <;> rfl
theorem qf8(n lo hi:Int):qbA n lo hi=some (rg lo hi n):=by
 unfold qbA rg;cases decide (lo<=n) <;> rfl
theorem dlt{a b:Nat}:decide ((a:Int)<(b:Int))=Nat.blt a b:=by
 rw[zU,zy,zX]; omega
theorem bltn(a b:Nat):Nat.blt a b=!Nat.ble b a:=by
 rw[zU,zX,zq];constructor
 ·intro h; exact zJ.2 fun hh=>by have:=zH hh; omega
 ·intro h; rcases zb2 a b with h' | h'
  ·exact h'
  ·rw[zw1 h'] at h; cases h
theorem qAp(n:Net):qes n=some (limB n):=by
 unfold qes limB;have e1:decide ((n.1.length:Int)<1)=!Nat.ble 1 n.1.length:=by rw[<-bltn]; exact dlt (b:=1)
 have e2:decide (24<(n.1.length:Int))=!Nat.ble n.1.length 24:=by rw[<-bltn]; exact dlt (a:=24)
 have e3:decide (32<(n.2.1.length:Int))=!Nat.ble n.2.1.length 32:=by rw[<-bltn]; exact dlt (a:=32)
 have e4:decide (24<(n.2.2.1.length:Int))=!Nat.ble n.2.2.1.length 24:=by rw[<-bltn]; exact dlt (a:=24)
 have e5:decide (12<(n.2.2.2.1.length:Int))=!Nat.ble n.2.2.2.1.length 12:=by rw[<-bltn]; exact dlt (a:=12)
 rw[e1,e2,e3,e4,e5];cases h1:Nat.ble 1 n.1.length
 ·rfl
 cases h2:Nat.ble n.1.length 24
 ·rfl
 cases h3:Nat.ble n.2.1.length 32
 ·rfl
 cases h4:Nat.ble n.2.2.1.length 24
 ·rfl
 cases h5:Nat.ble n.2.2.2.1.length 12
 ·rfl
 have h3:=zH h3;simp only[zf,zb,z7,zv2,zE];rw[qd4 n.2.1 (fun s=>!(Nat.ble 2 s.2.2.2.2.2.2.length&&Nat.ble s.2.2.2.2.2.2.length 8)) _ (fun x _=>by
  unfold qhh;have f1:decide ((x.2.2.2.2.2.2.length:Int)<2)=!Nat.ble 2 x.2.2.2.2.2.2.length:=by rw[<-bltn]; exact dlt (b:=2)
  have f2:decide (8<(x.2.2.2.2.2.2.length:Int))=!Nat.ble x.2.2.2.2.2.2.length 8:=by rw[<-bltn]; exact dlt (a:=8)
  simp only[f1,f2];cases Nat.ble 2 x.2.2.2.2.2.2.length <;> cases Nat.ble x.2.2.2.2.2.2.length 8 <;> rfl) (by omega),z7]
 congr 1;simp[z51]
theorem quI{n:Net}(h1:n.2.1.length<=1000)(h2:n.2.2.1.length<=1000)(h3:n.2.2.2.1.length<=1000):qb6 n=some (n.1,n.2.1.map (·.1),n.2.2.1.map (·.1),n.2.2.2.1.map (·.1)):=by
 unfold qb6;have k1:=qbj (step:=fun x:Int×List (List UInt8)=>qeQ n x.1 x.2) n.2.1.length (fun i=>((i:Int),(n.2.1.map (·.1)).take i)) (e:=n.2.1.map (·.1)) (fun i hi=>by
  unfold qeQ;simp only[dec_t (show(i:Int)<(n.2.1.length:Int) by omega),za,gd_t (inB_t hi),z9]
  rw[gd_t (qaw (by rw[zn]; omega)),w1 hi (by omega),qer ([]:List UInt8) (by simpa using hi),qlC (·.1) n.2.1 i sg0 [] hi]) (by
  unfold qeQ;simp only[dec_f (show ¬(n.2.1.length:Int)<(n.2.1.length:Int) by omega),zb]
  rw[zz (by simp)])
 rw[show((((0:Nat):Int),(n.2.1.map (·.1)).take 0):Int×List (List UInt8))=(0,[]) from rfl] at k1
 rw[k1,z7];generalize n.2.1.map (·.1)=A;have k2:=qbj (step:=fun x:Int×List (List UInt8)×List (List UInt8)=>qeR n x.1 x.2.1 x.2.2) n.2.2.1.length (fun i=>((i:Int),A,(n.2.2.1.map (·.1)).take i)) (e:=(A,n.2.2.1.map (·.1))) (fun i hi=>by
  unfold qeR;simp only[dec_t (show(i:Int)<(n.2.2.1.length:Int) by omega),za,gd_t (inB_t hi),z9]
  rw[gd_t (qaw (by rw[zn]; omega)),w1 hi (by omega),qer ([]:List UInt8) (by simpa using hi),qlC (·.1) n.2.2.1 i po0 [] hi]) (by
  unfold qeR;simp only[dec_f (show ¬(n.2.2.1.length:Int)<(n.2.2.1.length:Int) by omega),zb]
  rw[zz (by simp)])
 rw[show((((0:Nat):Int),A,(n.2.2.1.map (·.1)).take 0):Int×List (List UInt8)×List (List UInt8))=(0,A,[]) from rfl] at k2
 rw[k2,z7];simp only;generalize n.2.2.1.map (·.1)=B;have k3:=qbj (step:=fun x:Int×List (List UInt8)×List (List UInt8)×List (List UInt8)=>qeS n x.1 x.2.1 x.2.2.1 x.2.2.2) n.2.2.2.1.length (fun i=>((i:Int),A,B,(n.2.2.2.1.map (·.1)).take i)) (e:=(A,B,n.2.2.2.1.map (·.1))) (fun i hi=>by
  unfold qeS;simp only[dec_t (show(i:Int)<(n.2.2.2.1.length:Int) by omega),za,gd_t (inB_t hi),z9]
  rw[gd_t (qaw (by rw[zn]; omega)),w1 hi (by omega),qer ([]:List UInt8) (by simpa using hi),qlC (·.1) n.2.2.2.1 i sta0 [] hi]) (by
  unfold qeS;simp only[dec_f (show ¬(n.2.2.2.1.length:Int)<(n.2.2.2.1.length:Int) by omega),zb]
  rw[zz (by simp)])
 rw[show((((0:Nat):Int),A,B,(n.2.2.2.1.map (·.1)).take 0):Int×List (List UInt8)×List (List UInt8)×List (List UInt8))=(0,A,B,[]) from rfl] at k3
 rw[k3]; rfl
theorem qw0:@qol=@qb6:=rfl
theorem sidx(s:List Str)(v:Str)(hl:s.length<=1000000):qaz s v=some (if s.findIdx (fun x=>decide (v=x))<s.length then((s.findIdx (fun x=>decide (v=x)):Nat):Int) else -1):=by
 unfold qaz;have h:iter (fun x=>qaG s v x) 0=some (if s.findIdx (fun x=>decide (v=x))<s.length then .inr ((s.findIdx (fun x=>decide (v=x)):Nat):Int) else .inl ()):=by
  refine qf4 (step:=fun y=>qaG s v y) (ε:=Unit⊕Int) s [] (fun x=>decide (v=x)) (fin:=.inl ()) (fun i=>.inr (i:Int)) (fun i hi hq=>?_) (fun i hi hq=>?_) ?_
  ·unfold qaG;rw[dec_t (show(i:Int)<(s.length:Int) by omega),za,gd_t (inB_t hi),z9,hq,zb,w1 hi (by omega)]
  ·unfold qaG;rw[dec_t (show(i:Int)<(s.length:Int) by omega),za,gd_t (inB_t hi),z9,hq,za]
  ·unfold qaG;rw[dec_f (by omega)]; rfl
 rw[h,z7];by_cases hf:s.findIdx (fun x=>decide (v=x))<s.length
 ·rw[if_pos hf,if_pos hf]; rfl
 ·rw[if_neg hf,if_neg hf]; rfl
theorem qxS{A:Type}(l:List A)(d:A)(p:A->Bool)(i:Nat)(hi:i<l.length)(hp:p (l.getD i d)=true):
  decide ((if l.findIdx p<l.length then((l.findIdx p:Nat):Int) else -1)<(i:Int))=(List.range i).any fun k=>p (l.getD k d):=by
 have h1:l.findIdx p<l.length:=za2.2 ⟨_,qbe hi,hp⟩;rw[if_pos h1,<-qyS l d p i (by omega)]
 rw[zU,zy,zy]; omega
abbrev nm4(a b c d:List Str):List (List Str):=[a,b,c,d]
theorem range4{q:List Str->Bool}(a b c d:List Str):(List.range 4).all (fun i=>q ((nm4 a b c d).getD i []))=(nm4 a b c d).all q:=qst (nm4 a b c d) [] q
theorem range4n{q:List Str->Bool}(a b c d:List Str):(List.range 4).all (fun i=>!q ((nm4 a b c d).getD i []))=!(nm4 a b c d).any q:=by
 rw[range4 (q:=fun l=>!q l)]; simp[z51]
theorem len4{a b c d:List Str}{m:Nat}(ha:a.length<=m)(hb:b.length<=m)(hc:c.length<=m)(hd:d.length<=m)(i:Nat):((nm4 a b c d).getD i []).length<=m:=by
 rcases i with _ | _ | _ | _ | i
 ·exact ha
 ·exact hb
 ·exact hc
 ·exact hd
 ·show([]:List Str).length<=m; simp
noncomputable def qAq(l:List Str)(x:Int):Option (Int⊕(Unit⊕Bool)):=
 bif decide (x<(l.length:Int)) then(gd (inB x l.length)<|(qaz l (l.getD x.toNat [])).bind fun r2=>bif decide (r2<x) then(some (.inr (.inr true))) else(some (.inl (wi64 (x+1))))) else(some (.inr (.inl ())))
section
variable {a b c d:List Str} (ha:a.length<=100) (hb:b.length<=100) (hc:c.length<=100) (hd:d.length<=100)
include ha hb hc hd
theorem qBZ:iter (fun x:Int=>qe2 (a,b,c,d) x) 0=some (bif (nm4 a b c d).all (fun l=>l.all nameB) then .inl () else .inr 3):=by
 have:=qa1 (step:=fun x:Int=>qe2 (a,b,c,d) x) 4 (fun i=>(i:Int)) (fun i=>((nm4 a b c d).getD i []).all nameB) (fin:=.inl ()) (bad:=.inr 3) (fun i hi _ hq=>?_) (fun i hi _ hq=>?_) (fun _=>?_)
 ·rw[range4 (q:=fun l=>l.all nameB)] at this; exact this
 all_goals unfold qe2
 ·rw[dec_t (show(i:Int)<4 by omega),za,gd_t (inB_t hi),z9]
  show(qay ((nm4 a b c d).getD i []) _).bind _=_;rw[qj1 _ (fun s=>!nameB s) _ (fun x _=>by show(qc2 x).bind _=_; unfold qc2; rw[qsu]; rfl) (zG (len4 ha hb hc hd i) (by omega)),z7]
  rw[z51] at hq;simp only[zq,Bool.not_eq_eq_eq_not,zf] at hq;rw[hq,zb,w1 hi (by omega)]
 ·rw[dec_t (show(i:Int)<4 by omega),za,gd_t (inB_t hi),z9]
  show(qay ((nm4 a b c d).getD i []) _).bind _=_;rw[qj1 _ (fun s=>!nameB s) _ (fun x _=>by show(qc2 x).bind _=_; unfold qc2; rw[qsu]; rfl) (zG (len4 ha hb hc hd i) (by omega)),z7]
  rw[z51] at hq;simp only[zq,Bool.not_eq_eq_eq_not,zk1] at hq;rw[hq,za]
 ·rw[dec_f (by omega)]; rfl
theorem qEK:iter (fun x:Int=>qeU (a,b,c,d) x) 0=some (bif (nm4 a b c d).any twL then .inr true else .inl ()):=by
 have hin:∀i:Nat,i<4->iter (fun x=>qeT (a,b,c,d) (i:Int) x) 0=some (bif twL ((nm4 a b c d).getD i []) then .inr true else .inl ()):=by
  intro i hi;have hl:=len4 ha hb hc hd i;have e:∀x:Int,qeT (a,b,c,d) (i:Int) x=qAq ((nm4 a b c d).getD i []) x:=by
   intro x; unfold qeT; rw[z9]; rfl
  simp only[e];generalize (nm4 a b c d).getD i []=l at hl ⊢;have hidx:∀k,k<l.length->qaz l (l.getD k [])=some (if l.findIdx (fun x=>decide (l.getD k []=x))<l.length then((l.findIdx (fun x=>decide (l.getD k []=x)):Nat):Int) else -1):=fun k _=>sidx l _ (by omega)
  have:=scanN (ε:=Unit⊕Bool) (step:=fun x=>qAq l x) l.length (fun i=>(List.range i).any fun k=>decide (l.getD i []=l.getD k [])) (fin:=.inl ()) (bad:=.inr true) (fun k hk hq=>?_) (fun k hk hq=>?_) ?_
  ·exact this
  all_goals unfold qAq
  ·rw[dec_t (show(k:Int)<(l.length:Int) by omega),za,gd_t (inB_t hk),z9,hidx k hk,z7,qxS l [] _ k hk (by simp),hq,zb,w1 hk (by omega)]
  ·rw[dec_t (show(k:Int)<(l.length:Int) by omega),za,gd_t (inB_t hk),z9,hidx k hk,z7,qxS l [] _ k hk (by simp),hq,za]
  ·rw[dec_f (by omega)]; rfl
 have:=qa1 (step:=fun x:Int=>qeU (a,b,c,d) x) 4 (fun i=>(i:Int)) (fun i=>!twL ((nm4 a b c d).getD i [])) (fin:=.inl ()) (bad:=.inr true) (fun i hi _ hq=>?_) (fun i hi _ hq=>?_) (fun _=>?_)
 ·rw[range4n] at this;refine this.trans ?_
  cases(nm4 a b c d).any twL <;> rfl
 all_goals unfold qeU
 ·rw[dec_t (show(i:Int)<4 by omega),za,gd_t (inB_t hi),hin i hi,z7]
  simp only[zq] at hq;rw[hq,w1 hi (by omega)]; rfl
 ·rw[dec_t (show(i:Int)<4 by omega),za,gd_t (inB_t hi),hin i hi,z7]
  simp only[Bool.not_eq_false'] at hq;rw[hq]; rfl
 ·rw[dec_f (by omega)]; rfl
end
theorem qEL(n:Net)(hs:n.2.2.2.1.length<=100):iter (fun x=>qeV n x) 0=some (bif twS n.2.2.2.1 then .inr true else .inl ()):=by
 generalize hl:n.2.2.2.1=l at hs;have hidx:∀k,k<l.length->∀f:Stat×Unit->Option Bool,(∀x,f (x,())=some (decide (x.2.1=(l.getD k sta0).2.1)))->qaa l f=some (if l.findIdx (fun x=>decide (x.2.1=(l.getD k sta0).2.1))<l.length then((l.findIdx (fun x=>decide (x.2.1=(l.getD k sta0).2.1)):Nat):Int) else -1):=fun k _ f hf=>qcu l _ f (fun x _=>hf x) (by omega)
 have:=scanN (ε:=Unit⊕Bool) (step:=fun x=>qeV n x) l.length (fun i=>(List.range i).any fun k=>decide ((l.getD k sta0).2.1=(l.getD i sta0).2.1)) (fin:=.inl ()) (bad:=.inr true) (fun k hk hq=>?_) (fun k hk hq=>?_) ?_
 ·exact this
 all_goals unfold qeV; simp only[hl]
 ·rw[dec_t (show(k:Int)<(l.length:Int) by omega),za,gd_t (inB_t hk),z9,hidx k hk _ (fun x=>rfl),z7,qxS l sta0 _ k hk (by simp),hq,zb,w1 hk (by omega)]
 ·rw[dec_t (show(k:Int)<(l.length:Int) by omega),za,gd_t (inB_t hk),z9,hidx k hk _ (fun x=>rfl),z7,qxS l sta0 _ k hk (by simp),hq,za]
 ·rw[dec_f (by omega)]; rfl
theorem qB0{n:Net}(h:Small n):qfv n=some (twB n):=by
 obtain⟨h1,h2,h3,h4,h5,h6⟩:=h;unfold qfv;show(qb6 n).bind _=_;rw[quI (by omega) (by omega) (by omega),z7]
 rw[qEK (by omega) (by simp; omega) (by simp; omega) (by simp; omega),z7]
 unfold twB;show Sum.elim _ _ (bif (nmsOf n).any twL then _ else _)=_;cases(nmsOf n).any twL with
 | true=>rfl
 | false=>
  simp only[zb,z81,zi2];rw[qEL n (by omega),z7]
  cases twS n.2.2.2.1 <;> rfl
end Go.Proofs.YtmdijohmddokhaaGreatDoor
namespace Go.Proofs.YtmdijohmddokhaaGreatDoor
open Go Go.Sq
set_option linter.unusedVariables false
theorem qB1{n:Net}(h:Small n):qfx n=some (knB n):=by
 obtain⟨h1,h2,h3,h4,h5,h6⟩:=h;unfold qfx;have a1:∀i,(((n.2.1.take i).flatMap fun s=>[s.2.1,s.2.2.1]):List Int).length<=2*i:=by
  intro i;rw[List.length_flatMap];have:∀l:List Seg,(l.map fun s=>([s.2.1,s.2.2.1]:List Int).length).sum=2*l.length:=by
   intro l; induction l with
   | nil=>rfl
   | cons x l ih=>rw[zh1,List.sum_cons,ih]; show 2+2*l.length=2*(l.length+1); omega
  rw[this,zn]; omega
 have k1:=qbj (step:=fun x:Int×List Int=>qeW n x.1 x.2) n.2.1.length (fun i=>((i:Int),(n.2.1.take i).flatMap fun s=>[s.2.1,s.2.2.1])) (e:=n.2.1.flatMap fun s=>[s.2.1,s.2.2.1]) (fun i hi=>by
  unfold qeW;have:=a1 i;simp only[dec_t (show(i:Int)<(n.2.1.length:Int) by omega),za,gd_t (inB_t hi),z9]
  rw[gd_t (qaw (by omega)),w1 hi (by omega),qer sg0 hi,List.flatMap_append]; simp) (by
  unfold qeW;simp only[dec_f (show ¬(n.2.1.length:Int)<(n.2.1.length:Int) by omega),zb]
  rw[zz (by simp)])
 rw[show((((0:Nat):Int),(n.2.1.take 0).flatMap fun s=>[s.2.1,s.2.2.1]):Int×List Int)=(0,[]) from rfl] at k1
 rw[k1,z7];have a2:=a1 n.2.1.length;rw[zz (z61 _)] at a2;generalize hA:(n.2.1.flatMap fun s=>[s.2.1,s.2.2.1])=A at a2
 have k2:=qbj (step:=fun x:Int×List Int=>qeX n x.1 x.2) n.2.2.1.length (fun i=>((i:Int),A++(n.2.2.1.map (·.2.1)).take i)) (e:=A++n.2.2.1.map (·.2.1)) (fun i hi=>by
  unfold qeX;simp only[dec_t (show(i:Int)<(n.2.2.1.length:Int) by omega),za,gd_t (inB_t hi),z9]
  rw[gd_t (qaw (by simp; omega)),w1 hi (by omega),qer (0:Int) (by simpa using hi),qlC (·.2.1) n.2.2.1 i po0 0 hi,zu]) (by
  unfold qeX;simp only[dec_f (show ¬(n.2.2.1.length:Int)<(n.2.2.1.length:Int) by omega),zb]
  rw[zz (by simp)])
 rw[show((((0:Nat):Int),A++(n.2.2.1.map (·.2.1)).take 0):Int×List Int)=(0,A) by simp] at k2
 rw[k2,z7];have a3:(A++n.2.2.1.map (·.2.1)).length<=200:=by simp; omega
 generalize hB:A++n.2.2.1.map (·.2.1)=B at a3;have k3:=qbj (step:=fun x:Int×List Int=>qeY n x.1 x.2) n.2.2.2.1.length (fun i=>((i:Int),B++(n.2.2.2.1.map (·.2.1)).take i)) (e:=B++n.2.2.2.1.map (·.2.1)) (fun i hi=>by
  unfold qeY;simp only[dec_t (show(i:Int)<(n.2.2.2.1.length:Int) by omega),za,gd_t (inB_t hi),z9]
  rw[gd_t (qaw (by simp; omega)),w1 hi (by omega),qer (0:Int) (by simpa using hi),qlC (·.2.1) n.2.2.2.1 i sta0 0 hi,zu]) (by
  unfold qeY;simp only[dec_f (show ¬(n.2.2.2.1.length:Int)<(n.2.2.2.1.length:Int) by omega),zb]
  rw[zz (by simp)])
 rw[show((((0:Nat):Int),B++(n.2.2.2.1.map (·.2.1)).take 0):Int×List Int)=(0,B) by simp] at k3
 rw[k3,z7];rw[qom _ (fun k=>!kn n k) _ (fun x _=>by
  show(qfw x n).bind _=_;unfold qfw kn;have e1:decide (x<0)=!decide (0<=x):=by rw[zU]; simp
  have e2:decide ((n.1.length:Int)<=x)=!decide (x<(n.1.length:Int)):=by rw[zU]; simp
  rw[e1,e2];cases decide (0<=x) <;> cases decide (x<(n.1.length:Int)) <;> rfl) (by simp; omega),z7]
 congr 1;subst hB hA;unfold knB;rw[z51,z51,z51];rw[List.any_append,List.any_append,List.any_flatMap,List.any_map,List.any_map];simp[Function.comp_def,Bool.and_assoc]
theorem qDM{s:Seg}(h1:2<=s.2.2.2.2.2.2.length)(h2:s.2.2.2.2.2.2.length<=8):qgV s=some (pipeB s):=by
 unfold qgV pipeB;have hl:iter (fun x=>qfz s x) 0=some (bif (List.range s.2.2.2.2.2.2.length).all (ptB s.2.2.2.2.2.2) then .inl () else .inr false):=by
  have:=qa1 (step:=fun x=>qfz s x) s.2.2.2.2.2.2.length (fun i=>(i:Int)) (ptB s.2.2.2.2.2.2) (fin:=.inl ()) (bad:=.inr false) (fun i hi _ hq=>?_) (fun i hi _ hq=>?_) (fun _=>?_)
  ·exact this
  all_goals unfold qfz
  ·rw[dec_t (show(i:Int)<(s.2.2.2.2.2.2.length:Int) by omega),za,gd_t (inB_t hi),qj2,z7,qj2,z7,z9]
   unfold ptB at hq;simp only[z8] at hq;rw[hq.1,hq.2.1];simp only[zf,zb];rcases zW1 i with rfl | hp
   ·rfl
   ·rw[dec_t (show(0:Int)<(i:Int) by omega),za,show wi64 ((i:Int)-1)=((i-1:Nat):Int) by rw[wi (by omega)]; omega,gd_t (inB_t (show i-1<_ by omega)),z9,z7]
    have h3:=hq.2.2;simp only[zd1,zj] at h3;have h3:=h3.resolve_left (fun e=>by have:=zc e; omega)
    rw[dec_f (Int.not_le.2 h3),zb,w1 hi (by omega)]
  ·rw[dec_t (show(i:Int)<(s.2.2.2.2.2.2.length:Int) by omega),za,gd_t (inB_t hi),qj2,z7,qj2,z7,z9]
   unfold ptB at hq;cases e1:rg (-500) 5000 (s.2.2.2.2.2.2.getD i pt0).2.1 with
   | false=>rfl
   | true=>
    cases e2:rg 0 100000000 (s.2.2.2.2.2.2.getD i pt0).2.2 with
    | false=>rfl
    | true=>
     rw[e1,e2] at hq;simp only[zE,zZ1,z22] at hq;have hp:i≠0:=fun e=>by rw[e] at hq; cases hq.1
     simp only[zf,zb];rw[dec_t (show(0:Int)<(i:Int) by omega),za,show wi64 ((i:Int)-1)=((i-1:Nat):Int) by rw[wi (by omega)]; omega,gd_t (inB_t (show i-1<_ by omega)),z9,z7,dec_t (Int.not_lt.1 hq.2)]
     rfl
  ·rw[dec_f (by omega)]; rfl
 rw[hl,qj2,qj2,qj2];simp only[z7];cases decide (s.2.1=s.2.2.1) with
 | true=>rfl
 | false=>
 cases rg 1 1000000 s.2.2.2.1 with
 | false=>rfl
 | true=>
 cases rg 0 1000 s.2.2.2.2.1 with
 | false=>rfl
 | true=>
 cases rg 0 100000 s.2.2.2.2.2.1 with
 | false=>rfl
 | true=>
 cases(List.range s.2.2.2.2.2.2.length).all (ptB s.2.2.2.2.2.2) with
 | false=>rfl
 | true=>
  show(gd (inB 0 s.2.2.2.2.2.2.length) _)=_;rw[gd_t (inB0 (by omega)),show wi64 ((s.2.2.2.2.2.2.length:Int)-1)=((s.2.2.2.2.2.2.length-1:Nat):Int) by rw[wi (by omega)]; omega,gd_t (inB_t (show s.2.2.2.2.2.2.length-1<_ by omega)),z9]
  cases decide ((s.2.2.2.2.2.2.getD 0 (0,0,0)).1=0) <;> rfl
theorem qAr{n:Net}(h:Small n):qeu n=some (prB n):=by
 obtain⟨h1,h2,h3,h4,h5,h6⟩:=h;unfold qeu prB;rw[qd4 n.2.1 (fun s=>!pipeB s) _ (fun x hx=>by show(qeZ x).bind _=_; unfold qeZ; show((qgV x).bind _).bind _=_; rw[qDM (h6 x hx).1 (h6 x hx).2]; rfl) (by omega),z7]
 rw[qmx n.2.2.1 (fun p=>!rg 0 100000000 p.2.2) _ (fun x hx=>by show(qe0 x).bind _=_; unfold qe0; rw[qj2]; rfl) (by omega),z7]
 rw[qiH n.2.2.2.1 (fun p=>!stB p) _ (fun x hx=>by
  show(qe1 x).bind _=_; unfold qe1 stB; rw[qj2,qj2,qj2];cases rg 0 100000000 x.2.2.1 <;> cases rg 0 100000 x.2.2.2.1 <;> cases rg 0 100000000 x.2.2.2.2 <;> rfl) (by omega),z7,qj2,qj2]
 rw[z51,z51,z51];cases n.2.1.any (fun s=>!pipeB s) <;> cases n.2.2.1.any (fun p=>!rg 0 100000000 p.2.2) <;> cases n.2.2.2.1.any (fun p=>!stB p) <;> cases rg (-100000) 100000000 n.2.2.2.2.1 <;> rfl
theorem qfl(n:Net):qbE n=some (qbb n):=by
 unfold qbE qbb;show(qes n).bind _=_;rw[qAp,z7];cases hl:limB n with
 | false=>rfl
 | true=>
  have hs:=(qq8 n).1 hl;show(qb6 n).bind _=_;rw[quI (by have:=hs.sg; omega) (by have:=hs.po; omega) (by have:=hs.st; omega),z7]
  rw[qBZ (by have:=hs.no; omega) (by have:=hs.sg; simp; omega) (by have:=hs.po; simp; omega) (by have:=hs.st; simp; omega),z7]
  show Sum.elim _ _ (bif formB n then _ else _)=_;cases formB n with
  | false=>rfl
  | true=>
   show(qfv n).bind _=_;rw[qB0 hs,z7];cases twB n with
   | true=>rfl
   | false=>
    show(qfx n).bind _=_;rw[qB1 hs,z7];cases knB n with
    | false=>rfl
    | true=>
     show(qeu n).bind _=_;rw[qAr hs,z7];cases prB n <;> rfl
end Go.Proofs.YtmdijohmddokhaaGreatDoor
namespace Go.Proofs.YtmdijohmddokhaaGreatDoor
open Go Go.Sq
set_option linter.unusedVariables false
theorem scanL{A:Type}{ε:Type}(l:List A)(d:A){step:Int->Option (Int⊕(Unit⊕ε))}(q:A->Bool){bad:ε}
  (h1:∀i,i<l.length->q (l.getD i d)=true->step (i:Int)=some (.inl ((i+1:Nat):Int)))
  (h2:∀i,i<l.length->q (l.getD i d)=false->step (i:Int)=some (.inr (.inr bad))) (h3:step (l.length:Int)=some (.inr (.inl ()))):iter step 0=some (bif l.all q then .inl () else .inr bad):=
 scan l d q h1 h2 h3
theorem qDb(l:List Str)(i:Nat)(hi:i<l.length)(hl:l.length<=1000):iter (fun x=>qgx l (i:Int) x) 0=some (bif (List.range i).any (fun k=>decide (l.getD i []=l.getD k [])) then .inr true else .inl ()):=by
 have:=scanN (ε:=Unit⊕Bool) (step:=fun x=>qgx l (i:Int) x) i (fun k=>decide (l.getD i []=l.getD k [])) (fin:=.inl ()) (bad:=.inr true) (fun k hk hq=>?_) (fun k hk hq=>?_) ?_
 ·exact this
 all_goals unfold qgx
 ·rw[dec_t (show(k:Int)<(i:Int) by omega),za,gd_t (inB_t hi),gd_t (inB_t (show k<l.length by omega)),z9,z9,hq,zb,w1 hk (by omega)]
 ·rw[dec_t (show(k:Int)<(i:Int) by omega),za,gd_t (inB_t hi),gd_t (inB_t (show k<l.length by omega)),z9,z9,hq,za]
 ·rw[dec_f (by omega)]; rfl
theorem qvP(l:List Str)(hl:l.length<=1000):qkv l=some (twL l):=by
 unfold qkv;have:=scanN (ε:=Unit⊕Bool) (step:=fun x=>qjl l x) l.length (fun i=>(List.range i).any fun k=>decide (l.getD i []=l.getD k [])) (fin:=.inl ()) (bad:=.inr true) (fun k hk hq=>?_) (fun k hk hq=>?_) ?_
 ·rw[this,z7]; unfold twL;cases(List.range l.length).any fun i=>(List.range i).any fun k=>decide (l.getD i []=l.getD k []) <;> rfl
 all_goals unfold qjl
 ·rw[dec_t (show(k:Int)<(l.length:Int) by omega),za,qDb l k hk hl,z7,hq,w1 hk (by omega)]; rfl
 ·rw[dec_t (show(k:Int)<(l.length:Int) by omega),za,qDb l k hk hl,z7,hq]; rfl
 ·rw[dec_f (by omega)]; rfl
theorem qts{s:Seg}(h1:2<=s.2.2.2.2.2.2.length)(h2:s.2.2.2.2.2.2.length<=8):qfp s=some (pipeB s):=by
 unfold qfp pipeB;have hl:iter (fun x=>qfW s x) 0=some (bif (List.range s.2.2.2.2.2.2.length).all (ptB s.2.2.2.2.2.2) then .inl () else .inr false):=by
  have:=qa1 (step:=fun x=>qfW s x) s.2.2.2.2.2.2.length (fun i=>(i:Int)) (ptB s.2.2.2.2.2.2) (fin:=.inl ()) (bad:=.inr false) (fun i hi _ hq=>?_) (fun i hi _ hq=>?_) (fun _=>?_)
  ·exact this
  all_goals unfold qfW
  ·rw[dec_t (show(i:Int)<(s.2.2.2.2.2.2.length:Int) by omega),za,gd_t (inB_t hi),z9]
   unfold ptB at hq;simp only[z8] at hq;simp only[qf8,z7];rcases zW1 i with rfl | hp
   ·rw[dec_f (by omega),zb]
    have e1:=hq.1;have e2:=hq.2.1;simp only[pt0] at e1 e2;rw[e1,e2]; rfl
   ·have e1:=hq.1;have e2:=hq.2.1;simp only[pt0] at e1 e2;rw[dec_t (show(0:Int)<(i:Int) by omega),za,show wi64 ((i:Int)-1)=((i-1:Nat):Int) by rw[wi (by omega)]; omega,gd_t (inB_t (show i-1<_ by omega)),z9]
    have h3:=hq.2.2;simp only[zd1,zj] at h3;have h3:=h3.resolve_left (fun e=>by have:=zc e; omega)
    rw[dec_f (Int.not_le.2 h3),zb,e1,e2,w1 hi (by omega)]; rfl
  ·rw[dec_t (show(i:Int)<(s.2.2.2.2.2.2.length:Int) by omega),za,gd_t (inB_t hi),z9]
   unfold ptB at hq;simp only[qf8,z7];simp only[pt0] at hq;rcases zW1 i with rfl | hp
   ·rw[dec_f (by omega),zb]
    cases e1:rg (-500) 5000 (s.2.2.2.2.2.2.getD 0 (0,0,0)).2.1 with
    | false=>rfl
    | true=>
     cases e2:rg 0 100000000 (s.2.2.2.2.2.2.getD 0 (0,0,0)).2.2 with
     | false=>rfl
     | true=>rw[e1,e2] at hq; cases hq
   ·rw[dec_t (show(0:Int)<(i:Int) by omega),za,show wi64 ((i:Int)-1)=((i-1:Nat):Int) by rw[wi (by omega)]; omega,gd_t (inB_t (show i-1<_ by omega)),z9]
    cases hd:decide ((s.2.2.2.2.2.2.getD i (0,0,0)).1<=(s.2.2.2.2.2.2.getD (i-1) (0,0,0)).1) with
    | true=>rfl
    | false=>
     have hd:=zN hd;rw[show decide ((s.2.2.2.2.2.2.getD (i-1) (0,0,0)).1<(s.2.2.2.2.2.2.getD i (0,0,0)).1)=true from dec_t (by omega),Bool.or_true] at hq
     cases e1:rg (-500) 5000 (s.2.2.2.2.2.2.getD i (0,0,0)).2.1 with
     | false=>rfl
     | true=>
      cases e2:rg 0 100000000 (s.2.2.2.2.2.2.getD i (0,0,0)).2.2 with
      | false=>rfl
      | true=>rw[e1,e2] at hq; cases hq
  ·rw[dec_f (by omega)]; rfl
 rw[hl];simp only[qf8,z7];rw[show wi64 ((s.2.2.2.2.2.2.length:Int)-1)=((s.2.2.2.2.2.2.length-1:Nat):Int) by rw[wi (by omega)]; omega,gd_t (inB0 (show 0<s.2.2.2.2.2.2.length by omega)),gd_t (inB_t (show s.2.2.2.2.2.2.length-1<s.2.2.2.2.2.2.length by omega)),z9]
 cases decide (s.2.1=s.2.2.1) <;> cases rg 1 1000000 s.2.2.2.1 <;> cases rg 0 1000 s.2.2.2.2.1 <;> cases rg 0 100000 s.2.2.2.2.2.1 <;> cases decide ((s.2.2.2.2.2.2.getD 0 (0,0,0)).1=0) <;> cases decide ((s.2.2.2.2.2.2.getD (s.2.2.2.2.2.2.length-1) (0,0,0)).1=s.2.2.2.1) <;> cases(List.range s.2.2.2.2.2.2.length).all (ptB s.2.2.2.2.2.2) <;> rfl
section
variable {a b c d:List Str} (ha:a.length<=100) (hb:b.length<=100) (hc:c.length<=100) (hd:d.length<=100)
include ha hb hc hd
theorem qB2:iter (fun x3=>qgy x3.1 x3.2.1 x3.2.2.1 x3.2.2.2.1 x3.2.2.2.2) (a,b,c,d,(0:Int))=some (bif (nm4 a b c d).all (fun l=>l.all nameB) then .inl () else .inr 3):=by
 have hin:∀i:Nat,i<4->iter (fun x2=>qdC a b c d (i:Int) x2.1 x2.2.1 x2.2.2.1 x2.2.2.2.1 x2.2.2.2.2) (a,b,c,d,(0:Int))=some (bif ((nm4 a b c d).getD i []).all nameB then .inl (a,b,c,d) else .inr 3):=by
  intro i hi;have hl:=len4 ha hb hc hd i;have e:∀x:Int,qdC a b c d (i:Int) a b c d x=qdC ((nm4 a b c d).getD i []) [] [] [] 0 a b c d x:=by
   intro x; unfold qdC; rw[z9]; rfl
  have:=qa1 (ε:=(List Str×List Str×List Str×List Str)⊕Int) (step:=fun x2:List Str×List Str×List Str×List Str×Int=>qdC a b c d (i:Int) x2.1 x2.2.1 x2.2.2.1 x2.2.2.2.1 x2.2.2.2.2) ((nm4 a b c d).getD i []).length (fun k=>(a,b,c,d,(k:Int))) (fun k=>nameB (((nm4 a b c d).getD i []).getD k [])) (fin:=.inl (a,b,c,d)) (bad:=.inr 3) (fun k hk _ hq=>?_) (fun k hk _ hq=>?_) (fun _=>?_)
  ·rw[qst] at this; exact this
  all_goals simp only[e]; generalize (nm4 a b c d).getD i []=l at*
  ·show(bif decide ((k:Int)<(l.length:Int)) then(gd (inB (k:Int) l.length)<|(qcn (l.getD (k:Int).toNat [])).bind fun r4=>bif !r4 then _ else _) else _)=_
   rw[dec_t (show(k:Int)<(l.length:Int) by omega),za,gd_t (inB_t hk),z9,qvO,z7,hq,w1 hk (by omega)]; rfl
  ·show(bif decide ((k:Int)<(l.length:Int)) then(gd (inB (k:Int) l.length)<|(qcn (l.getD (k:Int).toNat [])).bind fun r4=>bif !r4 then _ else _) else _)=_
   rw[dec_t (show(k:Int)<(l.length:Int) by omega),za,gd_t (inB_t hk),z9,qvO,z7,hq]; rfl
  ·show(bif decide ((l.length:Int)<(l.length:Int)) then _ else _)=_;rw[dec_f (by omega)]; rfl
 have:=qa1 (ε:=Unit⊕Int) (step:=fun x3:List Str×List Str×List Str×List Str×Int=>qgy x3.1 x3.2.1 x3.2.2.1 x3.2.2.2.1 x3.2.2.2.2) 4 (fun i=>(a,b,c,d,(i:Int))) (fun i=>((nm4 a b c d).getD i []).all nameB) (fin:=.inl ()) (bad:=.inr 3) (fun i hi _ hq=>?_) (fun i hi _ hq=>?_) (fun _=>?_)
 ·rw[range4 (q:=fun l=>l.all nameB)] at this; exact this
 all_goals unfold qgy
 ·simp only;rw[dec_t (show(i:Int)<4 by omega),za,gd_t (inB_t hi),hin i hi,z7,hq]
  simp only[za,z81];rw[w1 hi (by omega)]
 ·simp only;rw[dec_t (show(i:Int)<4 by omega),za,gd_t (inB_t hi),hin i hi,z7,hq]; rfl
 ·simp only;rw[dec_f (by omega)]; rfl
theorem qDN:iter (fun x3=>qgz x3.1 x3.2.1 x3.2.2.1 x3.2.2.2.1 x3.2.2.2.2) (a,b,c,d,(0:Int))=some (bif (nm4 a b c d).any twL then .inr 7 else .inl ()):=by
 have:=qa1 (ε:=Unit⊕Int) (step:=fun x3:List Str×List Str×List Str×List Str×Int=>qgz x3.1 x3.2.1 x3.2.2.1 x3.2.2.2.1 x3.2.2.2.2) 4 (fun i=>(a,b,c,d,(i:Int))) (fun i=>!twL ((nm4 a b c d).getD i [])) (fin:=.inl ()) (bad:=.inr 7) (fun i hi _ hq=>?_) (fun i hi _ hq=>?_) (fun _=>?_)
 ·rw[range4n] at this;refine this.trans ?_
  cases(nm4 a b c d).any twL <;> rfl
 all_goals unfold qgz; simp only
 ·rw[dec_t (show(i:Int)<4 by omega),za,gd_t (inB_t hi),z9]
  have:=len4 ha hb hc hd i;rw[qvP ((nm4 a b c d).getD i []) (by omega),z7]
  simp only[zq] at hq;rw[hq,w1 hi (by omega)]; rfl
 ·rw[dec_t (show(i:Int)<4 by omega),za,gd_t (inB_t hi),z9]
  have:=len4 ha hb hc hd i;rw[qvP ((nm4 a b c d).getD i []) (by omega),z7]
  simp only[Bool.not_eq_false'] at hq;rw[hq]; rfl
 ·rw[dec_f (by omega)]; rfl
end
theorem qDO(n:Net)(hs:n.2.2.2.1.length<=100):iter (fun x=>qgB n x) 0=some (bif twS n.2.2.2.1 then .inr 7 else .inl ()):=by
 have hin:∀i:Nat,i<n.2.2.2.1.length->iter (fun x=>qgA n (i:Int) x) 0=some (bif (List.range i).any (fun k=>decide ((n.2.2.2.1.getD k sta0).2.1=(n.2.2.2.1.getD i sta0).2.1)) then .inr 7 else .inl ()):=by
  intro i hi;have:=scanN (ε:=Unit⊕Int) (step:=fun x=>qgA n (i:Int) x) i (fun k=>decide ((n.2.2.2.1.getD k sta0).2.1=(n.2.2.2.1.getD i sta0).2.1)) (fin:=.inl ()) (bad:=.inr 7) (fun k hk hq=>?_) (fun k hk hq=>?_) ?_
  ·exact this
  all_goals unfold qgA
  ·rw[dec_t (show(k:Int)<(i:Int) by omega),za,gd_t (inB_t hi),gd_t (inB_t (show k<n.2.2.2.1.length by omega)),z9,z9,dec_f (fun e=>zN hq e.symm),zb,w1 hk (by omega)]
  ·rw[dec_t (show(k:Int)<(i:Int) by omega),za,gd_t (inB_t hi),gd_t (inB_t (show k<n.2.2.2.1.length by omega)),z9,z9,dec_t (zi hq).symm,za]
  ·rw[dec_f (by omega)]; rfl
 have:=scanN (ε:=Unit⊕Int) (step:=fun x=>qgB n x) n.2.2.2.1.length (fun i=>(List.range i).any fun k=>decide ((n.2.2.2.1.getD k sta0).2.1=(n.2.2.2.1.getD i sta0).2.1)) (fin:=.inl ()) (bad:=.inr 7) (fun k hk hq=>?_) (fun k hk hq=>?_) ?_
 ·exact this
 all_goals unfold qgB
 ·rw[dec_t (show(k:Int)<(n.2.2.2.1.length:Int) by omega),za,hin k hk,z7,hq,w1 hk (by omega)]; rfl
 ·rw[dec_t (show(k:Int)<(n.2.2.2.1.length:Int) by omega),za,hin k hk,z7,hq]; rfl
 ·rw[dec_f (by omega)]; rfl
theorem rgk(n:Net)(h:1<=n.1.length)(h2:n.1.length<=24)(k:Int):rg 0 (wi64 ((n.1.length:Int)-1)) k=kn n k:=by
 unfold rg kn;rw[wi (by omega)]
 congr 1;rw[zU,zy,zy]; omega
theorem qiI(n:Net):qd2 n=some (qbb n):=by
 unfold qd2 qbb;simp only[qf8,z7];have e0:rg 1 24 (n.1.length:Int)=(Nat.ble 1 n.1.length&&Nat.ble n.1.length 24):=by
  unfold rg; rw[zU]; simp only[z8,zj,zb1]; omega
 have e3:decide (32<(n.2.1.length:Int))=!Nat.ble n.2.1.length 32:=by rw[<-bltn]; exact dlt (a:=32)
 have e4:decide (24<(n.2.2.1.length:Int))=!Nat.ble n.2.2.1.length 24:=by rw[<-bltn]; exact dlt (a:=24)
 have e5:decide (12<(n.2.2.2.1.length:Int))=!Nat.ble n.2.2.2.1.length 12:=by rw[<-bltn]; exact dlt (a:=12)
 rw[e0,e3,e4,e5];unfold limB;cases h1:Nat.ble 1 n.1.length
 ·rfl
 cases h2:Nat.ble n.1.length 24
 ·rfl
 cases h3:Nat.ble n.2.1.length 32
 ·rfl
 cases h4:Nat.ble n.2.2.1.length 24
 ·rfl
 cases h5:Nat.ble n.2.2.2.1.length 12
 ·rfl
 have g1:=zH h1;have g2:=zH h2;have g3:=zH h3;have g4:=zH h4;have g5:=zH h5;simp only[zf,zb,z7,zv2,zE];have k0:=scanL (ε:=Int) (step:=fun x=>qeC n x) n.2.1 sg0 (fun s=>Nat.ble 2 s.2.2.2.2.2.2.length&&Nat.ble s.2.2.2.2.2.2.length 8) (bad:=4) (fun i hi hq=>by
  unfold qeC;rw[dec_t (show(i:Int)<(n.2.1.length:Int) by omega),za,gd_t (inB_t hi),qf8,z7,z9]
  simp only[z8,zb1] at hq;rw[show rg 2 8 ((n.2.1.getD i sg0).2.2.2.2.2.2.length:Int)=true by unfold rg; rw[dec_t (by omega),dec_t (by omega)]; rfl,w1 hi (by omega)]; rfl) (fun i hi hq=>by
  unfold qeC;rw[dec_t (show(i:Int)<(n.2.1.length:Int) by omega),za,gd_t (inB_t hi),qf8,z7,z9]
  rw[show rg 2 8 ((n.2.1.getD i sg0).2.2.2.2.2.2.length:Int)=false by
   rw[<-hq]; unfold rg; rw[zU]; simp only[z8,zj,zb1]; omega]; rfl) (by
  unfold qeC;rw[dec_f (by omega)]; rfl)
 rw[k0,z7];cases hp:n.2.1.all (fun s=>Nat.ble 2 s.2.2.2.2.2.2.length&&Nat.ble s.2.2.2.2.2.2.length 8) with
 | false=>rfl
 | true=>
 have hs:Small n:=(qq8 n).1 (by unfold limB; rw[h1,h2,h3,h4,h5,hp]; rfl)
 simp only[za,z81];rw[qw0];show(qb6 n).bind _=_;rw[quI (by omega) (by omega) (by omega),z7]
 simp only;rw[qB2 (by omega) (by simp; omega) (by simp; omega) (by simp; omega),z7]
 show Sum.elim _ _ (bif formB n then _ else _)=_;cases formB n with
 | false=>rfl
 | true=>
 simp only[za,z81];rw[qDN (by omega) (by simp; omega) (by simp; omega) (by simp; omega),z7]
 unfold twB;show Sum.elim _ _ (bif (nmsOf n).any twL then _ else _)=_;cases(nmsOf n).any twL with
 | true=>rfl
 | false=>
 simp only[zb,z81,zi2];rw[qDO n (by omega),z7]
 cases twS n.2.2.2.1 with
 | true=>rfl
 | false=>
 simp only[zb,z81];have k6:=scanL (ε:=Int) (step:=fun x=>qeD n x) n.2.1 sg0 (fun s=>kn n s.2.1&&kn n s.2.2.1) (bad:=8) (fun i hi hq=>by
  unfold qeD;rw[dec_t (show(i:Int)<(n.2.1.length:Int) by omega),za,gd_t (inB_t hi),qf8,z7,qf8,z7,z9,rgk n g1 g2,rgk n g1 g2]
  simp only[z8] at hq;rw[hq.1,hq.2,w1 hi (by omega)]; rfl) (fun i hi hq=>by
  unfold qeD;rw[dec_t (show(i:Int)<(n.2.1.length:Int) by omega),za,gd_t (inB_t hi),qf8,z7,qf8,z7,z9,rgk n g1 g2,rgk n g1 g2]
  revert hq
  cases kn n (n.2.1.getD i sg0).2.1 <;> cases kn n (n.2.1.getD i sg0).2.2.1 <;> intro hq <;> first | rfl | cases hq) (by
  unfold qeD;rw[dec_f (by omega)]; rfl)
 rw[k6,z7];unfold knB;cases n.2.1.all (fun s=>kn n s.2.1&&kn n s.2.2.1) with
 | false=>rfl
 | true=>
 simp only[za,z81,zE];have k7:=scanL (ε:=Int) (step:=fun x=>qeE n x) n.2.2.1 po0 (fun s=>kn n s.2.1) (bad:=8) (fun i hi hq=>by
  unfold qeE;rw[dec_t (show(i:Int)<(n.2.2.1.length:Int) by omega),za,gd_t (inB_t hi),qf8,z7,z9,rgk n g1 g2,hq,w1 hi (by omega)]; rfl) (fun i hi hq=>by
  unfold qeE;rw[dec_t (show(i:Int)<(n.2.2.1.length:Int) by omega),za,gd_t (inB_t hi),qf8,z7,z9,rgk n g1 g2,hq]; rfl) (by
  unfold qeE;rw[dec_f (by omega)]; rfl)
 rw[k7,z7];cases n.2.2.1.all (fun s=>kn n s.2.1) with
 | false=>rfl
 | true=>
 simp only[za,z81,zE];have k8:=scanL (ε:=Int) (step:=fun x=>qeF n x) n.2.2.2.1 sta0 (fun s=>kn n s.2.1) (bad:=8) (fun i hi hq=>by
  unfold qeF;rw[dec_t (show(i:Int)<(n.2.2.2.1.length:Int) by omega),za,gd_t (inB_t hi),qf8,z7,z9,rgk n g1 g2,hq,w1 hi (by omega)]; rfl) (fun i hi hq=>by
  unfold qeF;rw[dec_t (show(i:Int)<(n.2.2.2.1.length:Int) by omega),za,gd_t (inB_t hi),qf8,z7,z9,rgk n g1 g2,hq]; rfl) (by
  unfold qeF;rw[dec_f (by omega)]; rfl)
 rw[k8,z7];cases n.2.2.2.1.all (fun s=>kn n s.2.1) with
 | false=>rfl
 | true=>
 simp only[za,z81];unfold prB;have k9:=scanL (ε:=Int) (step:=fun x=>qeG n x) n.2.1 sg0 pipeB (bad:=9) (fun i hi hq=>by
  unfold qeG;rw[dec_t (show(i:Int)<(n.2.1.length:Int) by omega),za,gd_t (inB_t hi),z9]
  have:=hs.pt _ (qbe (d:=sg0) hi);show(qfp (n.2.1.getD i sg0)).bind _=_;rw[qts this.1 this.2,z7,hq,w1 hi (by omega)]; rfl) (fun i hi hq=>by
  unfold qeG;rw[dec_t (show(i:Int)<(n.2.1.length:Int) by omega),za,gd_t (inB_t hi),z9]
  have:=hs.pt _ (qbe (d:=sg0) hi);show(qfp (n.2.1.getD i sg0)).bind _=_;rw[qts this.1 this.2,z7,hq]; rfl) (by
  unfold qeG;rw[dec_f (by omega)]; rfl)
 rw[k9,z7];cases n.2.1.all pipeB with
 | false=>rfl
 | true=>
 simp only[za,z81,zE];have k10:=scanL (ε:=Int) (step:=fun x=>qd0 n x) n.2.2.1 po0 (fun p=>rg 0 100000000 p.2.2) (bad:=9) (fun i hi hq=>by
  unfold qd0;rw[dec_t (show(i:Int)<(n.2.2.1.length:Int) by omega),za,gd_t (inB_t hi),qf8,z7,z9,hq,w1 hi (by omega)]; rfl) (fun i hi hq=>by
  unfold qd0;rw[dec_t (show(i:Int)<(n.2.2.1.length:Int) by omega),za,gd_t (inB_t hi),qf8,z7,z9,hq]; rfl) (by
  unfold qd0;rw[dec_f (by omega)]; rfl)
 rw[k10,z7];cases n.2.2.1.all (fun p=>rg 0 100000000 p.2.2) with
 | false=>rfl
 | true=>
 simp only[za,z81,zE];have k11:=scanL (ε:=Int) (step:=fun x=>qd1 n x) n.2.2.2.1 sta0 stB (bad:=9) (fun i hi hq=>by
  unfold qd1;unfold stB at hq;simp only[z8,sta0] at hq;simp only[qf8,z7];rw[dec_t (show(i:Int)<(n.2.2.2.1.length:Int) by omega),za,gd_t (inB_t hi),z9,hq.1,hq.2.1,hq.2.2,w1 hi (by omega)]; rfl) (fun i hi hq=>by
  unfold qd1;unfold stB at hq;simp only[sta0] at hq;simp only[qf8,z7];rw[dec_t (show(i:Int)<(n.2.2.2.1.length:Int) by omega),za,gd_t (inB_t hi),z9]
  revert hq
  cases rg 0 100000000 (n.2.2.2.1.getD i ([],0,0,0,0)).2.2.1 <;> cases rg 0 100000 (n.2.2.2.1.getD i ([],0,0,0,0)).2.2.2.1 <;> cases rg 0 100000000 (n.2.2.2.1.getD i ([],0,0,0,0)).2.2.2.2 <;> intro hq <;> first | rfl | cases hq) (by
  unfold qd1;rw[dec_f (by omega)]; rfl)
 rw[k11,z7];cases n.2.2.2.1.all stB with
 | false=>rfl
 | true=>
 simp only[za,z81,zE,z7];cases rg (-100000) 100000000 n.2.2.2.2.1 <;> cases rg 0 100 n.2.2.2.2.2 <;> rfl
end Go.Proofs.YtmdijohmddokhaaGreatDoor
namespace Go.Proofs.YtmdijohmddokhaaGreatDoor
open Go Go.Sq
theorem qq9(c:UInt8)(hc:c∈[(110:UInt8),103,113,115,112]){m:Nat}(hm:m<=26):(nms c m).all nameB=true:=by
 have key:∀c∈[(110:UInt8),103,113,115,112],∀i∈List.range 26,nameB (nm c i)=true:=by decide +kernel
 rw[zm];intro x hx;obtain⟨j,hj,rfl⟩:=qDL hx;exact key c hc j (zK.2 (by omega))
theorem qpF{l:List Str}(h:l.Nodup):twL l=false:=by
 unfold twL;rw[zL1];intro i hi;rw[z62,zL1];intro k hk;have hi:=zK.1 hi;have hk:=zK.1 hk;rw[zj];intro he;rw[zh,zh,zk (by omega),zk (by omega)] at he
 have:=(List.getElem_inj h (h₀:=hi) (h₁:=(by omega:k<l.length))).1 he
 omega
theorem rg_t{lo hi x:Int}(h:lo<=x/\x<=hi):rg lo hi x=true:=by
 unfold rg;rw[z21 h.1,z21 h.2]; rfl
theorem qEM{k:Nat}{s:Seg}(h:SegP k s):pipeB s=true:=by
 have a1:=h.pts.l2;unfold pipeB;rw[zw2 h.ne,rg_t h.cap,rg_t h.res,rg_t h.wav];have e1:(s.2.2.2.2.2.2.getD 0 pt0).1=0:=h.pts.fst;have e2:(s.2.2.2.2.2.2.getD (s.2.2.2.2.2.2.length-1) pt0).1=s.2.2.2.1:=h.pts.lst;rw[z21 e1,z21 e2];simp only[zk1,Bool.and_self,zE,zv2];rw[zm];intro i hi;have hi:=zK.1 hi;have hr:=h.pts.rng _ (qbe (d:=pt0) hi);unfold ptB;rw[rg_t ⟨hr.1,hr.2.1⟩,rg_t ⟨hr.2.2.1,hr.2.2.2⟩];simp only[zE];cases i with
 | zero=>rfl
 | succ j=>
  have:=h.pts.inc j hi;have e3:(s.2.2.2.2.2.2.getD (j+1-1) pt0).1<(s.2.2.2.2.2.2.getD (j+1) pt0).1:=this;rw[z21 e3,Bool.or_true]
theorem chk0{k:Nat}{n:Net}(h:NetP k n):qbb n=0:=by
 have a1:=h.k2; have a2:=h.k6; have a3:=h.segs.len; have a4:=h.ports.len; have a5:=h.stats.len; have a6:=h.some';have e:n.1.length=k:=by rw[h.nodes,qqd]
 have hl:limB n=true:=(qq8 n).2 ⟨by omega,by omega,by omega,by omega,by omega,fun s hs=>⟨(h.segs.rng s hs).pts.l2,(h.segs.rng s hs).pts.l8⟩⟩
 have hf:formB n=true:=by
  unfold formB nmsOf;rw[h.nodes,h.segs.nam,h.ports.nam,h.stats.nam];simp only[z11,List.all_nil];rw[qq9 110 (by decide) (by omega),qq9 103 (by decide) (by omega),qq9 113 (by decide) (by omega),qq9 115 (by decide) (by omega)]; rfl
 have ht:twB n=false:=by
  unfold twB nmsOf;rw[h.nodes,h.segs.nam,h.ports.nam,h.stats.nam];simp only[List.any_cons,List.any_nil];rw[qpF (qpE 110 (by omega)),qpF (qpE 103 (by omega)),qpF (qpE 113 (by omega)),qpF (qpE 115 (by omega))]
  simp only[Bool.or_self,zi2];unfold twS;rw[zL1];intro i hi;rw[z62,zL1];intro q hq;have hi:=zK.1 hi;have hq:=zK.1 hq;rw[zj];intro he;have hd:=h.stats.dif;have e1:∀j (hj:j<n.2.2.2.1.length),(n.2.2.2.1.getD j sta0).2.1=(n.2.2.2.1.map (·.2.1))[j]'(by simpa using hj):=fun j hj=>by
   rw[List.getElem_map,zh,zk hj]; rfl
  rw[e1 q (by omega),e1 i hi] at he
  have:=(List.getElem_inj hd).1 he;omega
 have hk:knB n=true:=by
  unfold knB kn;rw[z8,z8,zm,zm,zm];refine⟨fun s hs=>?_,fun s hs=>?_,fun s hs=>?_⟩
  ·have:=h.segs.rng s hs;have b1:=this.f0; have b2:=this.f1; have b3:=this.t0; have b4:=this.t1;rw[z21 b1,z21 b3,z21 (by omega),z21 (by omega)]; rfl
  ·have:=h.ports.rng s hs;rw[z21 this.1,z21 (by omega)]; rfl
  ·have:=h.stats.rng s hs;rw[z21 this.1,z21 (by omega)]; rfl
 have hp:prB n=true:=by
  unfold prB;rw[rg_t h.vap,rg_t h.set,zm.2 fun s hs=>qEM (h.segs.rng s hs),zm.2 fun s hs=>rg_t (h.ports.rng s hs).2.2,zm.2 fun s hs=>?_]
  ·rfl
  ·have:=h.stats.rng s hs;unfold stB;rw[rg_t this.2.2.1,rg_t this.2.2.2.1,rg_t this.2.2.2.2]; rfl
 unfold qbb;rw[hl,hf,ht,hk,hp]; rfl
end Go.Proofs.YtmdijohmddokhaaGreatDoor
