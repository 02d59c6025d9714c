/- slices.IndexFunc and slices.ContainsFunc as findIdx and any. No condition. -/
import Derived.Test.YtgmjmgihjjddmaaGreatNk0
import Derived.Test.YtgmjmgihjjddmaaGreatLa1
import Derived.Test.YtgmjmgihjjddmaaGreatLa2
namespace Go.Proofs.YtgmjmgihjjddmaaGreat
open Go Go.Sq
theorem qh0(s:List (List UInt8×Int×Int×Int×Int×Int×List (Int×Int×Int)))(p:(List UInt8×Int×Int×Int×Int×Int×List (Int×Int×Int))->Bool)(f:(List UInt8×Int×Int×Int×Int×Int×List (Int×Int×Int))×Unit->Option Bool)(hf:∀x∈s,f (x,())=some (p x))(hl:s.length<=1000000):qaG s f=some (if s.findIdx p<s.length then((s.findIdx p:Nat):Int) else -1):=by
 unfold qaG;have h:iter (fun x=>qai s f x) 0=some (if s.findIdx p<s.length then .inr ((s.findIdx p:Nat):Int) else .inl ()):=by
  refine qen (step:=fun y=>qai s f y) (ε:=Unit⊕Int) s ([],0,0,0,0,0,[]) p (fin:=.inl ()) (fun i=>.inr (i:Int)) (fun i hi hq=>?_) (fun i hi hq=>?_) ?_
  ·unfold qai;rw[dec_t (show(i:Int)<(s.length:Int) by omega),z9,gd_t (inB_t hi),z8,hf _ (qaY hi),z7,hq,za,w1 hi (by omega)]
  ·unfold qai;rw[dec_t (show(i:Int)<(s.length:Int) by omega),z9,gd_t (inB_t hi),z8,hf _ (qaY hi),z7,hq,z9]
  ·unfold qai;rw[dec_f (by omega)]; rfl
 rw[h,z7];by_cases hf:s.findIdx p<s.length
 ·rw[if_pos hf,if_pos hf]; rfl
 ·rw[if_neg hf,if_neg hf]; rfl
theorem qdH(s:List (List UInt8×Int×Int×Int×Int×Int×List (Int×Int×Int)))(p:(List UInt8×Int×Int×Int×Int×Int×List (Int×Int×Int))->Bool)(f:(List UInt8×Int×Int×Int×Int×Int×List (Int×Int×Int))×Unit->Option Bool)(hf:∀x∈s,f (x,())=some (p x))(hl:s.length<=1000000):qaq s f=some (s.any p):=by
 unfold qaq;rw[qh0 s p f hf hl,z7,<-qeP];by_cases hf:s.findIdx p<s.length
 ·rw[if_pos hf,dec_t hf,dec_t (by omega)]
 ·rw[if_neg hf,dec_f hf,dec_f (by omega)]
theorem qpq(s:List (List UInt8))(p:(List UInt8)->Bool)(f:(List UInt8)×Unit->Option Bool)(hf:∀x∈s,f (x,())=some (p x))(hl:s.length<=1000000):qbf s f=some (if s.findIdx p<s.length then((s.findIdx p:Nat):Int) else -1):=by
 unfold qbf;have h:iter (fun x=>qay s f x) 0=some (if s.findIdx p<s.length then .inr ((s.findIdx p:Nat):Int) else .inl ()):=by
  refine qen (step:=fun y=>qay s f y) (ε:=Unit⊕Int) s [] p (fin:=.inl ()) (fun i=>.inr (i:Int)) (fun i hi hq=>?_) (fun i hi hq=>?_) ?_
  ·unfold qay;rw[dec_t (show(i:Int)<(s.length:Int) by omega),z9,gd_t (inB_t hi),z8,hf _ (qaY hi),z7,hq,za,w1 hi (by omega)]
  ·unfold qay;rw[dec_t (show(i:Int)<(s.length:Int) by omega),z9,gd_t (inB_t hi),z8,hf _ (qaY hi),z7,hq,z9]
  ·unfold qay;rw[dec_f (by omega)]; rfl
 rw[h,z7];by_cases hf:s.findIdx p<s.length
 ·rw[if_pos hf,if_pos hf]; rfl
 ·rw[if_neg hf,if_neg hf]; rfl
theorem qjy(s:List (List UInt8))(p:(List UInt8)->Bool)(f:(List UInt8)×Unit->Option Bool)(hf:∀x∈s,f (x,())=some (p x))(hl:s.length<=1000000):qaz s f=some (s.any p):=by
 unfold qaz;rw[qpq s p f hf hl,z7,<-qeP];by_cases hf:s.findIdx p<s.length
 ·rw[if_pos hf,dec_t hf,dec_t (by omega)]
 ·rw[if_neg hf,dec_f hf,dec_f (by omega)]
theorem qdI(s:List (List UInt8×Int×Int×Int×Int))(p:(List UInt8×Int×Int×Int×Int)->Bool)(f:(List UInt8×Int×Int×Int×Int)×Unit->Option Bool)(hf:∀x∈s,f (x,())=some (p x))(hl:s.length<=1000000):qao s f=some (if s.findIdx p<s.length then((s.findIdx p:Nat):Int) else -1):=by
 unfold qao;have h:iter (fun x=>qaj s f x) 0=some (if s.findIdx p<s.length then .inr ((s.findIdx p:Nat):Int) else .inl ()):=by
  refine qen (step:=fun y=>qaj s f y) (ε:=Unit⊕Int) s ([],0,0,0,0) p (fin:=.inl ()) (fun i=>.inr (i:Int)) (fun i hi hq=>?_) (fun i hi hq=>?_) ?_
  ·unfold qaj;rw[dec_t (show(i:Int)<(s.length:Int) by omega),z9,gd_t (inB_t hi),z8,hf _ (qaY hi),z7,hq,za,w1 hi (by omega)]
  ·unfold qaj;rw[dec_t (show(i:Int)<(s.length:Int) by omega),z9,gd_t (inB_t hi),z8,hf _ (qaY hi),z7,hq,z9]
  ·unfold qaj;rw[dec_f (by omega)]; rfl
 rw[h,z7];by_cases hf:s.findIdx p<s.length
 ·rw[if_pos hf,if_pos hf]; rfl
 ·rw[if_neg hf,if_neg hf]; rfl
theorem qh1(s:List (List UInt8×Int×Int×Int×Int))(p:(List UInt8×Int×Int×Int×Int)->Bool)(f:(List UInt8×Int×Int×Int×Int)×Unit->Option Bool)(hf:∀x∈s,f (x,())=some (p x))(hl:s.length<=1000000):qaB s f=some (s.any p):=by
 unfold qaB;rw[qdI s p f hf hl,z7,<-qeP];by_cases hf:s.findIdx p<s.length
 ·rw[if_pos hf,dec_t hf,dec_t (by omega)]
 ·rw[if_neg hf,dec_f hf,dec_f (by omega)]
theorem qvR(s:List (Int))(p:(Int)->Bool)(f:(Int)×Unit->Option Bool)(hf:∀x∈s,f (x,())=some (p x))(hl:s.length<=1000000):qbO s f=some (if s.findIdx p<s.length then((s.findIdx p:Nat):Int) else -1):=by
 unfold qbO;have h:iter (fun x=>qaO s f x) 0=some (if s.findIdx p<s.length then .inr ((s.findIdx p:Nat):Int) else .inl ()):=by
  refine qen (step:=fun y=>qaO s f y) (ε:=Unit⊕Int) s 0 p (fin:=.inl ()) (fun i=>.inr (i:Int)) (fun i hi hq=>?_) (fun i hi hq=>?_) ?_
  ·unfold qaO;rw[dec_t (show(i:Int)<(s.length:Int) by omega),z9,gd_t (inB_t hi),z8,hf _ (qaY hi),z7,hq,za,w1 hi (by omega)]
  ·unfold qaO;rw[dec_t (show(i:Int)<(s.length:Int) by omega),z9,gd_t (inB_t hi),z8,hf _ (qaY hi),z7,hq,z9]
  ·unfold qaO;rw[dec_f (by omega)]; rfl
 rw[h,z7];by_cases hf:s.findIdx p<s.length
 ·rw[if_pos hf,if_pos hf]; rfl
 ·rw[if_neg hf,if_neg hf]; rfl
theorem qnz(s:List (Int))(p:(Int)->Bool)(f:(Int)×Unit->Option Bool)(hf:∀x∈s,f (x,())=some (p x))(hl:s.length<=1000000):qaE s f=some (s.any p):=by
 unfold qaE;rw[qvR s p f hf hl,z7,<-qeP];by_cases hf:s.findIdx p<s.length
 ·rw[if_pos hf,dec_t hf,dec_t (by omega)]
 ·rw[if_neg hf,dec_f hf,dec_f (by omega)]
theorem qlU(s:List (List UInt8×Int×Int))(p:(List UInt8×Int×Int)->Bool)(f:(List UInt8×Int×Int)×Unit->Option Bool)(hf:∀x∈s,f (x,())=some (p x))(hl:s.length<=1000000):qa0 s f=some (if s.findIdx p<s.length then((s.findIdx p:Nat):Int) else -1):=by
 unfold qa0;have h:iter (fun x=>qar s f x) 0=some (if s.findIdx p<s.length then .inr ((s.findIdx p:Nat):Int) else .inl ()):=by
  refine qen (step:=fun y=>qar s f y) (ε:=Unit⊕Int) s ([],0,0) p (fin:=.inl ()) (fun i=>.inr (i:Int)) (fun i hi hq=>?_) (fun i hi hq=>?_) ?_
  ·unfold qar;rw[dec_t (show(i:Int)<(s.length:Int) by omega),z9,gd_t (inB_t hi),z8,hf _ (qaY hi),z7,hq,za,w1 hi (by omega)]
  ·unfold qar;rw[dec_t (show(i:Int)<(s.length:Int) by omega),z9,gd_t (inB_t hi),z8,hf _ (qaY hi),z7,hq,z9]
  ·unfold qar;rw[dec_f (by omega)]; rfl
 rw[h,z7];by_cases hf:s.findIdx p<s.length
 ·rw[if_pos hf,if_pos hf]; rfl
 ·rw[if_neg hf,if_neg hf]; rfl
theorem qlV(s:List (List UInt8×Int×Int))(p:(List UInt8×Int×Int)->Bool)(f:(List UInt8×Int×Int)×Unit->Option Bool)(hf:∀x∈s,f (x,())=some (p x))(hl:s.length<=1000000):qaN s f=some (s.any p):=by
 unfold qaN;rw[qlU s p f hf hl,z7,<-qeP];by_cases hf:s.findIdx p<s.length
 ·rw[if_pos hf,dec_t hf,dec_t (by omega)]
 ·rw[if_neg hf,dec_f hf,dec_f (by omega)]
theorem qkm(s:List (Int×Int×Bool×Bool))(p:(Int×Int×Bool×Bool)->Bool)(f:(Int×Int×Bool×Bool)×Unit->Option Bool)(hf:∀x∈s,f (x,())=some (p x))(hl:s.length<=1000000):qaR s f=some (if s.findIdx p<s.length then((s.findIdx p:Nat):Int) else -1):=by
 unfold qaR;have h:iter (fun x=>qap s f x) 0=some (if s.findIdx p<s.length then .inr ((s.findIdx p:Nat):Int) else .inl ()):=by
  refine qen (step:=fun y=>qap s f y) (ε:=Unit⊕Int) s (0,0,false,false) p (fin:=.inl ()) (fun i=>.inr (i:Int)) (fun i hi hq=>?_) (fun i hi hq=>?_) ?_
  ·unfold qap;rw[dec_t (show(i:Int)<(s.length:Int) by omega),z9,gd_t (inB_t hi),z8,hf _ (qaY hi),z7,hq,za,w1 hi (by omega)]
  ·unfold qap;rw[dec_t (show(i:Int)<(s.length:Int) by omega),z9,gd_t (inB_t hi),z8,hf _ (qaY hi),z7,hq,z9]
  ·unfold qap;rw[dec_f (by omega)]; rfl
 rw[h,z7];by_cases hf:s.findIdx p<s.length
 ·rw[if_pos hf,if_pos hf]; rfl
 ·rw[if_neg hf,if_neg hf]; rfl
theorem qkn(s:List (Int×Int×Bool×Bool))(p:(Int×Int×Bool×Bool)->Bool)(f:(Int×Int×Bool×Bool)×Unit->Option Bool)(hf:∀x∈s,f (x,())=some (p x))(hl:s.length<=1000000):qau s f=some (s.any p):=by
 unfold qau;rw[qkm s p f hf hl,z7,<-qeP];by_cases hf:s.findIdx p<s.length
 ·rw[if_pos hf,dec_t hf,dec_t (by omega)]
 ·rw[if_neg hf,dec_f hf,dec_f (by omega)]
theorem qnA(s:List (Int×Bool))(p:(Int×Bool)->Bool)(f:(Int×Bool)×Unit->Option Bool)(hf:∀x∈s,f (x,())=some (p x))(hl:s.length<=1000000):qa6 s f=some (if s.findIdx p<s.length then((s.findIdx p:Nat):Int) else -1):=by
 unfold qa6;have h:iter (fun x=>qat s f x) 0=some (if s.findIdx p<s.length then .inr ((s.findIdx p:Nat):Int) else .inl ()):=by
  refine qen (step:=fun y=>qat s f y) (ε:=Unit⊕Int) s (0,false) p (fin:=.inl ()) (fun i=>.inr (i:Int)) (fun i hi hq=>?_) (fun i hi hq=>?_) ?_
  ·unfold qat;rw[dec_t (show(i:Int)<(s.length:Int) by omega),z9,gd_t (inB_t hi),z8,hf _ (qaY hi),z7,hq,za,w1 hi (by omega)]
  ·unfold qat;rw[dec_t (show(i:Int)<(s.length:Int) by omega),z9,gd_t (inB_t hi),z8,hf _ (qaY hi),z7,hq,z9]
  ·unfold qat;rw[dec_f (by omega)]; rfl
 rw[h,z7];by_cases hf:s.findIdx p<s.length
 ·rw[if_pos hf,if_pos hf]; rfl
 ·rw[if_neg hf,if_neg hf]; rfl
theorem qnB(s:List (Int×Bool))(p:(Int×Bool)->Bool)(f:(Int×Bool)×Unit->Option Bool)(hf:∀x∈s,f (x,())=some (p x))(hl:s.length<=1000000):qaW s f=some (s.any p):=by
 unfold qaW;rw[qnA s p f hf hl,z7,<-qeP];by_cases hf:s.findIdx p<s.length
 ·rw[if_pos hf,dec_t hf,dec_t (by omega)]
 ·rw[if_neg hf,dec_f hf,dec_f (by omega)]
theorem qgH(s:List (Int×Int×Int×Int×Int×List Int))(p:(Int×Int×Int×Int×Int×List Int)->Bool)(f:(Int×Int×Int×Int×Int×List Int)×Unit->Option Bool)(hf:∀x∈s,f (x,())=some (p x))(hl:s.length<=1000000):qaD s f=some (if s.findIdx p<s.length then((s.findIdx p:Nat):Int) else -1):=by
 unfold qaD;have h:iter (fun x=>qah s f x) 0=some (if s.findIdx p<s.length then .inr ((s.findIdx p:Nat):Int) else .inl ()):=by
  refine qen (step:=fun y=>qah s f y) (ε:=Unit⊕Int) s (0,0,0,0,0,[]) p (fin:=.inl ()) (fun i=>.inr (i:Int)) (fun i hi hq=>?_) (fun i hi hq=>?_) ?_
  ·unfold qah;rw[dec_t (show(i:Int)<(s.length:Int) by omega),z9,gd_t (inB_t hi),z8,hf _ (qaY hi),z7,hq,za,w1 hi (by omega)]
  ·unfold qah;rw[dec_t (show(i:Int)<(s.length:Int) by omega),z9,gd_t (inB_t hi),z8,hf _ (qaY hi),z7,hq,z9]
  ·unfold qah;rw[dec_f (by omega)]; rfl
 rw[h,z7];by_cases hf:s.findIdx p<s.length
 ·rw[if_pos hf,if_pos hf]; rfl
 ·rw[if_neg hf,if_neg hf]; rfl
end Go.Proofs.YtgmjmgihjjddmaaGreat
namespace Go.Proofs.YtgmjmgihjjddmaaGreat
open Go Go.Sq
set_option linter.unusedVariables false
abbrev pt0:Pt:=(0,(0,0))
abbrev sg0:Seg:=([],(0,(0,(0,(0,(0,[]))))))
abbrev po0:Port:=([],(0,0))
abbrev sta0:Stat:=([],(0,(0,(0,0))))
def rg(lo hi n:Int):Bool:=decide (lo<=n)&&decide (n<=hi)
def limB(n:Net):Bool:=Nat.ble 1 n.1.length&&(Nat.ble n.1.length 24&&(Nat.ble n.2.1.length 32&&(Nat.ble n.2.2.1.length 24&&Nat.ble n.2.2.2.1.length 12)))&&n.2.1.all fun s=>Nat.ble 2 s.2.2.2.2.2.2.length&&Nat.ble s.2.2.2.2.2.2.length 8
def nmsOf(n:Net):List (List Str):=[n.1,n.2.1.map (·.1),n.2.2.1.map (·.1),n.2.2.2.1.map (·.1)]
def formB(n:Net):Bool:=(nmsOf n).all fun l=>l.all nameB
def twL(l:List Str):Bool:=(List.range l.length).any fun i=>(List.range i).any fun k=>decide (l.getD i []=l.getD k [])
def twS(l:List Stat):Bool:=(List.range l.length).any fun i=>(List.range i).any fun k=>decide ((l.getD k sta0).2.1=(l.getD i sta0).2.1)
def twB(n:Net):Bool:=(nmsOf n).any twL || twS n.2.2.2.1
def kn(n:Net)(k:Int):Bool:=decide (0<=k)&&decide (k<(n.1.length:Int))
def knB(n:Net):Bool:=n.2.1.all (fun s=>kn n s.2.1&&kn n s.2.2.1)&&(n.2.2.1.all (fun p=>kn n p.2.1)&&n.2.2.2.1.all (fun s=>kn n s.2.1))
def ptB(l:List Pt)(i:Nat):Bool:=rg (-500) 5000 (l.getD i pt0).2.1&&(rg 0 100000000 (l.getD i pt0).2.2&&(Nat.beq i 0 || decide ((l.getD (i-1) pt0).1<(l.getD i pt0).1)))
def pipeB(s:Seg):Bool:=!decide (s.2.1=s.2.2.1)&&(rg 1 1000000 s.2.2.2.1&&(rg 0 1000 s.2.2.2.2.1&&rg 0 100000 s.2.2.2.2.2.1))&&((List.range s.2.2.2.2.2.2.length).all (ptB s.2.2.2.2.2.2)&&(decide ((s.2.2.2.2.2.2.getD 0 pt0).1=0)&&decide ((s.2.2.2.2.2.2.getD (s.2.2.2.2.2.2.length-1) pt0).1=s.2.2.2.1)))
def stB(s:Stat):Bool:=rg 0 100000000 s.2.2.1&&(rg 0 100000 s.2.2.2.1&&rg 0 100000000 s.2.2.2.2)
def prB(n:Net):Bool:=n.2.1.all pipeB&&(n.2.2.1.all (fun p=>rg 0 100000000 p.2.2)&&(n.2.2.2.1.all stB&&(rg (-100000) 100000000 n.2.2.2.2.1&&rg 0 100 n.2.2.2.2.2)))
def qbZ(n:Net):Int:=bif limB n then(bif formB n then(bif twB n then 7 else bif knB n then(bif prB n then 0 else 9) else 8) else 3) else 4
structure Small(n:Net):Prop where
 no1:1<=n.1.length
 no:n.1.length<=24
 sg:n.2.1.length<=32
 po:n.2.2.1.length<=24
 st:n.2.2.2.1.length<=12
 pt:∀s∈n.2.1,2<=s.2.2.2.2.2.2.length/\s.2.2.2.2.2.2.length<=8
theorem qqj(n:Net):limB n=true↔Small n:=by
 unfold limB;simp only[zb,zp1,zt];constructor
 ·rintro⟨⟨h1,h2,h3,h4,h5⟩,h6⟩; exact⟨h1,h2,h3,h4,h5,h6⟩
 ·rintro⟨h1,h2,h3,h4,h5,h6⟩; exact⟨⟨h1,h2,h3,h4,h5⟩,h6⟩
theorem qjz(n lo hi:Int):qbP n lo hi=some (rg lo hi n):=by
 unfold qbP rg;cases decide (lo<=n) <;> rfl
theorem qft(n lo hi:Int):qbx n lo hi=some (rg lo hi n):=by
 unfold qbx rg;cases decide (lo<=n) <;> rfl
theorem dlt{a b:Nat}:decide ((a:Int)<(b:Int))=Nat.blt a b:=by
 rw[zQ,zz,zM]; omega
theorem bltn(a b:Nat):Nat.blt a b=!Nat.ble b a:=by
 rw[zQ,zM,zo];constructor
 ·intro h; exact zL.2 fun hh=>by have:=zI hh; omega
 ·intro h; rcases zj2 a b with h' | h'
  ·exact h'
  ·rw[zD2 h'] at h; cases h
theorem qyV(n:Net):qd0 n=some (limB n):=by
 unfold qd0 limB;have e1:decide ((n.1.length:Int)<1)=!Nat.ble 1 n.1.length:=by rw[<-bltn]; exact dlt (b:=1)
 have e2:decide (24<(n.1.length:Int))=!Nat.ble n.1.length 24:=by rw[<-bltn]; exact dlt (a:=24)
 have e3:decide (32<(n.2.1.length:Int))=!Nat.ble n.2.1.length 32:=by rw[<-bltn]; exact dlt (a:=32)
 have e4:decide (24<(n.2.2.1.length:Int))=!Nat.ble n.2.2.1.length 24:=by rw[<-bltn]; exact dlt (a:=24)
 have e5:decide (12<(n.2.2.2.1.length:Int))=!Nat.ble n.2.2.2.1.length 12:=by rw[<-bltn]; exact dlt (a:=12)
 rw[e1,e2,e3,e4,e5];cases h1:Nat.ble 1 n.1.length
 ·rfl
 cases h2:Nat.ble n.1.length 24
 ·rfl
 cases h3:Nat.ble n.2.1.length 32
 ·rfl
 cases h4:Nat.ble n.2.2.1.length 24
 ·rfl
 cases h5:Nat.ble n.2.2.2.1.length 12
 ·rfl
 have h3:=zI h3;simp only[zd,za,z7,zI2,zF];rw[qdH n.2.1 (fun s=>!(Nat.ble 2 s.2.2.2.2.2.2.length&&Nat.ble s.2.2.2.2.2.2.length 8)) _ (fun x _=>by
  unfold qgu;have f1:decide ((x.2.2.2.2.2.2.length:Int)<2)=!Nat.ble 2 x.2.2.2.2.2.2.length:=by rw[<-bltn]; exact dlt (b:=2)
  have f2:decide (8<(x.2.2.2.2.2.2.length:Int))=!Nat.ble x.2.2.2.2.2.2.length 8:=by rw[<-bltn]; exact dlt (a:=8)
  simp only[f1,f2];cases Nat.ble 2 x.2.2.2.2.2.2.length <;> cases Nat.ble x.2.2.2.2.2.2.length 8 <;> rfl) (by omega),z7]
 congr 1;simp[zZ]
theorem qtF{n:Net}(h1:n.2.1.length<=1000)(h2:n.2.2.1.length<=1000)(h3:n.2.2.2.1.length<=1000):qb1 n=some (n.1,(n.2.1.map (·.1),(n.2.2.1.map (·.1),n.2.2.2.1.map (·.1)))):=by
 unfold qb1;have k1:=qbe (step:=fun x:Int×List (List UInt8)=>qep n x.1 x.2) n.2.1.length (fun i=>((i:Int),(n.2.1.map (·.1)).take i)) (e:=n.2.1.map (·.1)) (fun i hi=>by
  unfold qep;simp only[dec_t (show(i:Int)<(n.2.1.length:Int) by omega),z9,gd_t (inB_t hi),z8]
  rw[gd_t (qae (by rw[zl]; omega)),w1 hi (by omega),qeY ([]:List UInt8) (by simpa using hi),qq3 (·.1) n.2.1 i sg0 [] hi]) (by
  unfold qep;simp only[dec_f (show ¬(n.2.1.length:Int)<(n.2.1.length:Int) by omega),za]
  rw[zx (by simp)])
 rw[show((((0:Nat):Int),(n.2.1.map (·.1)).take 0):Int×List (List UInt8))=(0,[]) from rfl] at k1
 rw[k1,z7];generalize n.2.1.map (·.1)=A;have k2:=qbe (step:=fun x:Int×List (List UInt8)×List (List UInt8)=>qeq n x.1 x.2.1 x.2.2) n.2.2.1.length (fun i=>((i:Int),A,(n.2.2.1.map (·.1)).take i)) (e:=(A,n.2.2.1.map (·.1))) (fun i hi=>by
  unfold qeq;simp only[dec_t (show(i:Int)<(n.2.2.1.length:Int) by omega),z9,gd_t (inB_t hi),z8]
  rw[gd_t (qae (by rw[zl]; omega)),w1 hi (by omega),qeY ([]:List UInt8) (by simpa using hi),qq3 (·.1) n.2.2.1 i po0 [] hi]) (by
  unfold qeq;simp only[dec_f (show ¬(n.2.2.1.length:Int)<(n.2.2.1.length:Int) by omega),za]
  rw[zx (by simp)])
 rw[show((((0:Nat):Int),A,(n.2.2.1.map (·.1)).take 0):Int×List (List UInt8)×List (List UInt8))=(0,A,[]) from rfl] at k2
 rw[k2,z7];simp only;generalize n.2.2.1.map (·.1)=B;have k3:=qbe (step:=fun x:Int×List (List UInt8)×List (List UInt8)×List (List UInt8)=>qer n x.1 x.2.1 x.2.2.1 x.2.2.2) n.2.2.2.1.length (fun i=>((i:Int),A,B,(n.2.2.2.1.map (·.1)).take i)) (e:=(A,B,n.2.2.2.1.map (·.1))) (fun i hi=>by
  unfold qer;simp only[dec_t (show(i:Int)<(n.2.2.2.1.length:Int) by omega),z9,gd_t (inB_t hi),z8]
  rw[gd_t (qae (by rw[zl]; omega)),w1 hi (by omega),qeY ([]:List UInt8) (by simpa using hi),qq3 (·.1) n.2.2.2.1 i sta0 [] hi]) (by
  unfold qer;simp only[dec_f (show ¬(n.2.2.2.1.length:Int)<(n.2.2.2.1.length:Int) by omega),za]
  rw[zx (by simp)])
 rw[show((((0:Nat):Int),A,B,(n.2.2.2.1.map (·.1)).take 0):Int×List (List UInt8)×List (List UInt8)×List (List UInt8))=(0,A,B,[]) from rfl] at k3
 rw[k3]; rfl
theorem qvS:@qnv=@qb1:=rfl
theorem sidx(s:List Str)(v:Str)(hl:s.length<=1000000):qaT s v=some (if s.findIdx (fun x=>decide (v=x))<s.length then((s.findIdx (fun x=>decide (v=x)):Nat):Int) else -1):=by
 unfold qaT;have h:iter (fun x=>qaH s v x) 0=some (if s.findIdx (fun x=>decide (v=x))<s.length then .inr ((s.findIdx (fun x=>decide (v=x)):Nat):Int) else .inl ()):=by
  refine qen (step:=fun y=>qaH s v y) (ε:=Unit⊕Int) s [] (fun x=>decide (v=x)) (fin:=.inl ()) (fun i=>.inr (i:Int)) (fun i hi hq=>?_) (fun i hi hq=>?_) ?_
  ·unfold qaH;rw[dec_t (show(i:Int)<(s.length:Int) by omega),z9,gd_t (inB_t hi),z8,hq,za,w1 hi (by omega)]
  ·unfold qaH;rw[dec_t (show(i:Int)<(s.length:Int) by omega),z9,gd_t (inB_t hi),z8,hq,z9]
  ·unfold qaH;rw[dec_f (by omega)]; rfl
 rw[h,z7];by_cases hf:s.findIdx (fun x=>decide (v=x))<s.length
 ·rw[if_pos hf,if_pos hf]; rfl
 ·rw[if_neg hf,if_neg hf]; rfl
theorem qwI{A:Type}(l:List A)(d:A)(p:A->Bool)(i:Nat)(hi:i<l.length)(hp:p (l.getD i d)=true):
  decide ((if l.findIdx p<l.length then((l.findIdx p:Nat):Int) else -1)<(i:Int))=(List.range i).any fun k=>p (l.getD k d):=by
 have h1:l.findIdx p<l.length:=zv2.2 ⟨_,qaY hi,hp⟩;rw[if_pos h1,<-qxA l d p i (by omega)]
 rw[zQ,zz,zz]; omega
abbrev nm4(a b c d:List Str):List (List Str):=[a,b,c,d]
theorem range4{q:List Str->Bool}(a b c d:List Str):(List.range 4).all (fun i=>q ((nm4 a b c d).getD i []))=(nm4 a b c d).all q:=qsv (nm4 a b c d) [] q
theorem range4n{q:List Str->Bool}(a b c d:List Str):(List.range 4).all (fun i=>!q ((nm4 a b c d).getD i []))=!(nm4 a b c d).any q:=by
 rw[range4 (q:=fun l=>!q l)]; simp[zZ]
theorem len4{a b c d:List Str}{m:Nat}(ha:a.length<=m)(hb:b.length<=m)(hc:c.length<=m)(hd:d.length<=m)(i:Nat):((nm4 a b c d).getD i []).length<=m:=by
 rcases i with _ | _ | _ | _ | i
 ·exact ha
 ·exact hb
 ·exact hc
 ·exact hd
 ·show([]:List Str).length<=m; simp
noncomputable def qyW(l:List Str)(x:Int):Option (Int⊕(Unit⊕Bool)):=
 bif decide (x<(l.length:Int)) then(gd (inB x l.length)<|(qaT l (l.getD x.toNat [])).bind fun r2=>bif decide (r2<x) then(some (.inr (.inr true))) else(some (.inl (wi64 (x+1))))) else(some (.inr (.inl ())))
section
variable {a b c d:List Str} (ha:a.length<=100) (hb:b.length<=100) (hc:c.length<=100) (hd:d.length<=100)
include ha hb hc hd
theorem qAw:iter (fun x:Int=>qeB (a,(b,(c,d))) x) 0=some (bif (nm4 a b c d).all (fun l=>l.all nameB) then .inl () else .inr 3):=by
 have:=qa2 (step:=fun x:Int=>qeB (a,(b,(c,d))) x) 4 (fun i=>(i:Int)) (fun i=>((nm4 a b c d).getD i []).all nameB) (fin:=.inl ()) (bad:=.inr 3) (fun i hi _ hq=>?_) (fun i hi _ hq=>?_) (fun _=>?_)
 ·rw[range4 (q:=fun l=>l.all nameB)] at this; exact this
 all_goals unfold qeB
 ·rw[dec_t (show(i:Int)<4 by omega),z9,gd_t (inB_t hi),z8]
  show(qaz ((nm4 a b c d).getD i []) _).bind _=_;rw[qjy _ (fun s=>!nameB s) _ (fun x _=>by show(qcO x).bind _=_; unfold qcO; rw[quG]; rfl) (z81 (len4 ha hb hc hd i) (by omega)),z7]
  rw[zZ] at hq;simp only[zo,Bool.not_eq_eq_eq_not,zd] at hq;rw[hq,za,w1 hi (by omega)]
 ·rw[dec_t (show(i:Int)<4 by omega),z9,gd_t (inB_t hi),z8]
  show(qaz ((nm4 a b c d).getD i []) _).bind _=_;rw[qjy _ (fun s=>!nameB s) _ (fun x _=>by show(qcO x).bind _=_; unfold qcO; rw[quG]; rfl) (z81 (len4 ha hb hc hd i) (by omega)),z7]
  rw[zZ] at hq;simp only[zo,Bool.not_eq_eq_eq_not,z91] at hq;rw[hq,z9]
 ·rw[dec_f (by omega)]; rfl
theorem qCP:iter (fun x:Int=>qet (a,(b,(c,d))) x) 0=some (bif (nm4 a b c d).any twL then .inr true else .inl ()):=by
 have hin:∀i:Nat,i<4->iter (fun x=>qes (a,(b,(c,d))) (i:Int) x) 0=some (bif twL ((nm4 a b c d).getD i []) then .inr true else .inl ()):=by
  intro i hi;have hl:=len4 ha hb hc hd i;have e:∀x:Int,qes (a,(b,(c,d))) (i:Int) x=qyW ((nm4 a b c d).getD i []) x:=by
   intro x; unfold qes; rw[z8]; rfl
  simp only[e];generalize (nm4 a b c d).getD i []=l at hl ⊢;have hidx:∀k,k<l.length->qaT l (l.getD k [])=some (if l.findIdx (fun x=>decide (l.getD k []=x))<l.length then((l.findIdx (fun x=>decide (l.getD k []=x)):Nat):Int) else -1):=fun k _=>sidx l _ (by omega)
  have:=scanN (ε:=Unit⊕Bool) (step:=fun x=>qyW l x) l.length (fun i=>(List.range i).any fun k=>decide (l.getD i []=l.getD k [])) (fin:=.inl ()) (bad:=.inr true) (fun k hk hq=>?_) (fun k hk hq=>?_) ?_
  ·exact this
  all_goals unfold qyW
  ·rw[dec_t (show(k:Int)<(l.length:Int) by omega),z9,gd_t (inB_t hk),z8,hidx k hk,z7,qwI l [] _ k hk (by simp),hq,za,w1 hk (by omega)]
  ·rw[dec_t (show(k:Int)<(l.length:Int) by omega),z9,gd_t (inB_t hk),z8,hidx k hk,z7,qwI l [] _ k hk (by simp),hq,z9]
  ·rw[dec_f (by omega)]; rfl
 have:=qa2 (step:=fun x:Int=>qet (a,(b,(c,d))) x) 4 (fun i=>(i:Int)) (fun i=>!twL ((nm4 a b c d).getD i [])) (fin:=.inl ()) (bad:=.inr true) (fun i hi _ hq=>?_) (fun i hi _ hq=>?_) (fun _=>?_)
 ·rw[range4n] at this;refine this.trans ?_
  cases(nm4 a b c d).any twL <;> rfl
 all_goals unfold qet
 ·rw[dec_t (show(i:Int)<4 by omega),z9,gd_t (inB_t hi),hin i hi,z7]
  simp only[zo] at hq;rw[hq,w1 hi (by omega)]; rfl
 ·rw[dec_t (show(i:Int)<4 by omega),z9,gd_t (inB_t hi),hin i hi,z7]
  simp only[Bool.not_eq_false'] at hq;rw[hq]; rfl
 ·rw[dec_f (by omega)]; rfl
end
theorem qCQ(n:Net)(hs:n.2.2.2.1.length<=100):iter (fun x=>qeu n x) 0=some (bif twS n.2.2.2.1 then .inr true else .inl ()):=by
 generalize hl:n.2.2.2.1=l at hs;have hidx:∀k,k<l.length->∀f:Stat×Unit->Option Bool,(∀x,f (x,())=some (decide (x.2.1=(l.getD k sta0).2.1)))->qao l f=some (if l.findIdx (fun x=>decide (x.2.1=(l.getD k sta0).2.1))<l.length then((l.findIdx (fun x=>decide (x.2.1=(l.getD k sta0).2.1)):Nat):Int) else -1):=fun k _ f hf=>qdI l _ f (fun x _=>hf x) (by omega)
 have:=scanN (ε:=Unit⊕Bool) (step:=fun x=>qeu n x) l.length (fun i=>(List.range i).any fun k=>decide ((l.getD k sta0).2.1=(l.getD i sta0).2.1)) (fin:=.inl ()) (bad:=.inr true) (fun k hk hq=>?_) (fun k hk hq=>?_) ?_
 ·exact this
 all_goals unfold qeu; simp only[hl]
 ·rw[dec_t (show(k:Int)<(l.length:Int) by omega),z9,gd_t (inB_t hk),z8,hidx k hk _ (fun x=>rfl),z7,qwI l sta0 _ k hk (by simp),hq,za,w1 hk (by omega)]
 ·rw[dec_t (show(k:Int)<(l.length:Int) by omega),z9,gd_t (inB_t hk),z8,hidx k hk _ (fun x=>rfl),z7,qwI l sta0 _ k hk (by simp),hq,z9]
 ·rw[dec_f (by omega)]; rfl
theorem qAx{n:Net}(h:Small n):qe1 n=some (twB n):=by
 obtain⟨h1,h2,h3,h4,h5,h6⟩:=h;unfold qe1;show(qb1 n).bind _=_;rw[qtF (by omega) (by omega) (by omega),z7]
 rw[qCP (by omega) (by simp; omega) (by simp; omega) (by simp; omega),z7]
 unfold twB;show Sum.elim _ _ (bif (nmsOf n).any twL then _ else _)=_;cases(nmsOf n).any twL with
 | true=>rfl
 | false=>
  simp only[za,z21,zf2];rw[qCQ n (by omega),z7]
  cases twS n.2.2.2.1 <;> rfl
end Go.Proofs.YtgmjmgihjjddmaaGreat
namespace Go.Proofs.YtgmjmgihjjddmaaGreat
open Go Go.Sq
set_option linter.unusedVariables false
theorem qAy{n:Net}(h:Small n):qe3 n=some (knB n):=by
 obtain⟨h1,h2,h3,h4,h5,h6⟩:=h;unfold qe3;have a1:∀i,(((n.2.1.take i).flatMap fun s=>[s.2.1,s.2.2.1]):List Int).length<=2*i:=by
  intro i;rw[List.length_flatMap];have:∀l:List Seg,(l.map fun s=>([s.2.1,s.2.2.1]:List Int).length).sum=2*l.length:=by
   intro l; induction l with
   | nil=>rfl
   | cons x l ih=>rw[zf1,List.sum_cons,ih]; show 2+2*l.length=2*(l.length+1); omega
  rw[this,zl]; omega
 have k1:=qbe (step:=fun x:Int×List Int=>qev n x.1 x.2) n.2.1.length (fun i=>((i:Int),(n.2.1.take i).flatMap fun s=>[s.2.1,s.2.2.1])) (e:=n.2.1.flatMap fun s=>[s.2.1,s.2.2.1]) (fun i hi=>by
  unfold qev;have:=a1 i;simp only[dec_t (show(i:Int)<(n.2.1.length:Int) by omega),z9,gd_t (inB_t hi),z8]
  rw[gd_t (qae (by omega)),w1 hi (by omega),qeY sg0 hi,List.flatMap_append]; simp) (by
  unfold qev;simp only[dec_f (show ¬(n.2.1.length:Int)<(n.2.1.length:Int) by omega),za]
  rw[zx (by simp)])
 rw[show((((0:Nat):Int),(n.2.1.take 0).flatMap fun s=>[s.2.1,s.2.2.1]):Int×List Int)=(0,[]) from rfl] at k1
 rw[k1,z7];have a2:=a1 n.2.1.length;rw[zx (zX _)] at a2;generalize hA:(n.2.1.flatMap fun s=>[s.2.1,s.2.2.1])=A at a2
 have k2:=qbe (step:=fun x:Int×List Int=>qew n x.1 x.2) n.2.2.1.length (fun i=>((i:Int),A++(n.2.2.1.map (·.2.1)).take i)) (e:=A++n.2.2.1.map (·.2.1)) (fun i hi=>by
  unfold qew;simp only[dec_t (show(i:Int)<(n.2.2.1.length:Int) by omega),z9,gd_t (inB_t hi),z8]
  rw[gd_t (qae (by simp; omega)),w1 hi (by omega),qeY (0:Int) (by simpa using hi),qq3 (·.2.1) n.2.2.1 i po0 0 hi,zD]) (by
  unfold qew;simp only[dec_f (show ¬(n.2.2.1.length:Int)<(n.2.2.1.length:Int) by omega),za]
  rw[zx (by simp)])
 rw[show((((0:Nat):Int),A++(n.2.2.1.map (·.2.1)).take 0):Int×List Int)=(0,A) by simp] at k2
 rw[k2,z7];have a3:(A++n.2.2.1.map (·.2.1)).length<=200:=by simp; omega
 generalize hB:A++n.2.2.1.map (·.2.1)=B at a3;have k3:=qbe (step:=fun x:Int×List Int=>qex n x.1 x.2) n.2.2.2.1.length (fun i=>((i:Int),B++(n.2.2.2.1.map (·.2.1)).take i)) (e:=B++n.2.2.2.1.map (·.2.1)) (fun i hi=>by
  unfold qex;simp only[dec_t (show(i:Int)<(n.2.2.2.1.length:Int) by omega),z9,gd_t (inB_t hi),z8]
  rw[gd_t (qae (by simp; omega)),w1 hi (by omega),qeY (0:Int) (by simpa using hi),qq3 (·.2.1) n.2.2.2.1 i sta0 0 hi,zD]) (by
  unfold qex;simp only[dec_f (show ¬(n.2.2.2.1.length:Int)<(n.2.2.2.1.length:Int) by omega),za]
  rw[zx (by simp)])
 rw[show((((0:Nat):Int),B++(n.2.2.2.1.map (·.2.1)).take 0):Int×List Int)=(0,B) by simp] at k3
 rw[k3,z7];rw[qnz _ (fun k=>!kn n k) _ (fun x _=>by
  show(qe2 x n).bind _=_;unfold qe2 kn;have e1:decide (x<0)=!decide (0<=x):=by rw[zQ]; simp
  have e2:decide ((n.1.length:Int)<=x)=!decide (x<(n.1.length:Int)):=by rw[zQ]; simp
  rw[e1,e2];cases decide (0<=x) <;> cases decide (x<(n.1.length:Int)) <;> rfl) (by simp; omega),z7]
 congr 1;subst hB hA;unfold knB;rw[zZ,zZ,zZ];rw[List.any_append,List.any_append,List.any_flatMap,List.any_map,List.any_map];simp[Function.comp_def,Bool.and_assoc]
theorem qBY{s:Seg}(h1:2<=s.2.2.2.2.2.2.length)(h2:s.2.2.2.2.2.2.length<=8):qgf s=some (pipeB s):=by
 unfold qgf pipeB;have hl:iter (fun x=>qe5 s x) 0=some (bif (List.range s.2.2.2.2.2.2.length).all (ptB s.2.2.2.2.2.2) then .inl () else .inr false):=by
  have:=qa2 (step:=fun x=>qe5 s x) s.2.2.2.2.2.2.length (fun i=>(i:Int)) (ptB s.2.2.2.2.2.2) (fin:=.inl ()) (bad:=.inr false) (fun i hi _ hq=>?_) (fun i hi _ hq=>?_) (fun _=>?_)
  ·exact this
  all_goals unfold qe5
  ·rw[dec_t (show(i:Int)<(s.2.2.2.2.2.2.length:Int) by omega),z9,gd_t (inB_t hi),qjz,z7,qjz,z7,z8]
   unfold ptB at hq;simp only[zb] at hq;rw[hq.1,hq.2.1];simp only[zd,za];rcases zX1 i with rfl | hp
   ·rfl
   ·rw[dec_t (show(0:Int)<(i:Int) by omega),z9,show wi64 ((i:Int)-1)=((i-1:Nat):Int) by rw[wi (by omega)]; omega,gd_t (inB_t (show i-1<_ by omega)),z8,z7]
    have h3:=hq.2.2;simp only[zl1,zw] at h3;have h3:=h3.resolve_left (fun e=>by have:=zc e; omega)
    rw[dec_f (Int.not_le.2 h3),za,w1 hi (by omega)]
  ·rw[dec_t (show(i:Int)<(s.2.2.2.2.2.2.length:Int) by omega),z9,gd_t (inB_t hi),qjz,z7,qjz,z7,z8]
   unfold ptB at hq;cases e1:rg (-500) 5000 (s.2.2.2.2.2.2.getD i pt0).2.1 with
   | false=>rfl
   | true=>
    cases e2:rg 0 100000000 (s.2.2.2.2.2.2.getD i pt0).2.2 with
    | false=>rfl
    | true=>
     rw[e1,e2] at hq;simp only[zF,zG2,z32] at hq;have hp:i≠0:=fun e=>by rw[e] at hq; cases hq.1
     simp only[zd,za];rw[dec_t (show(0:Int)<(i:Int) by omega),z9,show wi64 ((i:Int)-1)=((i-1:Nat):Int) by rw[wi (by omega)]; omega,gd_t (inB_t (show i-1<_ by omega)),z8,z7,dec_t (Int.not_lt.1 hq.2)]
     rfl
  ·rw[dec_f (by omega)]; rfl
 rw[hl,qjz,qjz,qjz];simp only[z7];cases decide (s.2.1=s.2.2.1) with
 | true=>rfl
 | false=>
 cases rg 1 1000000 s.2.2.2.1 with
 | false=>rfl
 | true=>
 cases rg 0 1000 s.2.2.2.2.1 with
 | false=>rfl
 | true=>
 cases rg 0 100000 s.2.2.2.2.2.1 with
 | false=>rfl
 | true=>
 cases(List.range s.2.2.2.2.2.2.length).all (ptB s.2.2.2.2.2.2) with
 | false=>rfl
 | true=>
  show(gd (inB 0 s.2.2.2.2.2.2.length) _)=_;rw[gd_t (inB0 (by omega)),show wi64 ((s.2.2.2.2.2.2.length:Int)-1)=((s.2.2.2.2.2.2.length-1:Nat):Int) by rw[wi (by omega)]; omega,gd_t (inB_t (show s.2.2.2.2.2.2.length-1<_ by omega)),z8]
  cases decide ((s.2.2.2.2.2.2.getD 0 (0,(0,0))).1=0) <;> rfl
theorem qyX{n:Net}(h:Small n):qd2 n=some (prB n):=by
 obtain⟨h1,h2,h3,h4,h5,h6⟩:=h;unfold qd2 prB;rw[qdH n.2.1 (fun s=>!pipeB s) _ (fun x hx=>by show(qey x).bind _=_; unfold qey; show((qgf x).bind _).bind _=_; rw[qBY (h6 x hx).1 (h6 x hx).2]; rfl) (by omega),z7]
 rw[qlV n.2.2.1 (fun p=>!rg 0 100000000 p.2.2) _ (fun x hx=>by show(qez x).bind _=_; unfold qez; rw[qjz]; rfl) (by omega),z7]
 rw[qh1 n.2.2.2.1 (fun p=>!stB p) _ (fun x hx=>by
  show(qeA x).bind _=_; unfold qeA stB; rw[qjz,qjz,qjz];cases rg 0 100000000 x.2.2.1 <;> cases rg 0 100000 x.2.2.2.1 <;> cases rg 0 100000000 x.2.2.2.2 <;> rfl) (by omega),z7,qjz,qjz]
 rw[zZ,zZ,zZ];cases n.2.1.any (fun s=>!pipeB s) <;> cases n.2.2.1.any (fun p=>!rg 0 100000000 p.2.2) <;> cases n.2.2.2.1.any (fun p=>!stB p) <;> cases rg (-100000) 100000000 n.2.2.2.2.1 <;> rfl
theorem qh2(n:Net):qcu n=some (qbZ n):=by
 unfold qcu qbZ;show(qd0 n).bind _=_;rw[qyV,z7];cases hl:limB n with
 | false=>rfl
 | true=>
  have hs:=(qqj n).1 hl;show(qb1 n).bind _=_;rw[qtF (by have:=hs.sg; omega) (by have:=hs.po; omega) (by have:=hs.st; omega),z7]
  rw[qAw (by have:=hs.no; omega) (by have:=hs.sg; simp; omega) (by have:=hs.po; simp; omega) (by have:=hs.st; simp; omega),z7]
  show Sum.elim _ _ (bif formB n then _ else _)=_;cases formB n with
  | false=>rfl
  | true=>
   show(qe1 n).bind _=_;rw[qAx hs,z7];cases twB n with
   | true=>rfl
   | false=>
    show(qe3 n).bind _=_;rw[qAy hs,z7];cases knB n with
    | false=>rfl
    | true=>
     show(qd2 n).bind _=_;rw[qyX hs,z7];cases prB n <;> rfl
end Go.Proofs.YtgmjmgihjjddmaaGreat
namespace Go.Proofs.YtgmjmgihjjddmaaGreat
open Go Go.Sq
set_option linter.unusedVariables false
theorem scanL{A:Type}{ε:Type}(l:List A)(d:A){step:Int->Option (Int⊕(Unit⊕ε))}(q:A->Bool){bad:ε}
  (h1:∀i,i<l.length->q (l.getD i d)=true->step (i:Int)=some (.inl ((i+1:Nat):Int)))
  (h2:∀i,i<l.length->q (l.getD i d)=false->step (i:Int)=some (.inr (.inr bad))) (h3:step (l.length:Int)=some (.inr (.inl ()))):iter step 0=some (bif l.all q then .inl () else .inr bad):=
 scan l d q h1 h2 h3
theorem qBx(l:List Str)(i:Nat)(hi:i<l.length)(hl:l.length<=1000):iter (fun x=>qfS l (i:Int) x) 0=some (bif (List.range i).any (fun k=>decide (l.getD i []=l.getD k [])) then .inr true else .inl ()):=by
 have:=scanN (ε:=Unit⊕Bool) (step:=fun x=>qfS l (i:Int) x) i (fun k=>decide (l.getD i []=l.getD k [])) (fin:=.inl ()) (bad:=.inr true) (fun k hk hq=>?_) (fun k hk hq=>?_) ?_
 ·exact this
 all_goals unfold qfS
 ·rw[dec_t (show(k:Int)<(i:Int) by omega),z9,gd_t (inB_t hi),gd_t (inB_t (show k<l.length by omega)),z8,z8,hq,za,w1 hk (by omega)]
 ·rw[dec_t (show(k:Int)<(i:Int) by omega),z9,gd_t (inB_t hi),gd_t (inB_t (show k<l.length by omega)),z8,z8,hq,z9]
 ·rw[dec_f (by omega)]; rfl
theorem quI(l:List Str)(hl:l.length<=1000):qj1 l=some (twL l):=by
 unfold qj1;have:=scanN (ε:=Unit⊕Bool) (step:=fun x=>qiS l x) l.length (fun i=>(List.range i).any fun k=>decide (l.getD i []=l.getD k [])) (fin:=.inl ()) (bad:=.inr true) (fun k hk hq=>?_) (fun k hk hq=>?_) ?_
 ·rw[this,z7]; unfold twL;cases(List.range l.length).any fun i=>(List.range i).any fun k=>decide (l.getD i []=l.getD k []) <;> rfl
 all_goals unfold qiS
 ·rw[dec_t (show(k:Int)<(l.length:Int) by omega),z9,qBx l k hk hl,z7,hq,w1 hk (by omega)]; rfl
 ·rw[dec_t (show(k:Int)<(l.length:Int) by omega),z9,qBx l k hk hl,z7,hq]; rfl
 ·rw[dec_f (by omega)]; rfl
theorem qsw{s:Seg}(h1:2<=s.2.2.2.2.2.2.length)(h2:s.2.2.2.2.2.2.length<=8):qeU s=some (pipeB s):=by
 unfold qeU pipeB;have hl:iter (fun x=>qfl s x) 0=some (bif (List.range s.2.2.2.2.2.2.length).all (ptB s.2.2.2.2.2.2) then .inl () else .inr false):=by
  have:=qa2 (step:=fun x=>qfl s x) s.2.2.2.2.2.2.length (fun i=>(i:Int)) (ptB s.2.2.2.2.2.2) (fin:=.inl ()) (bad:=.inr false) (fun i hi _ hq=>?_) (fun i hi _ hq=>?_) (fun _=>?_)
  ·exact this
  all_goals unfold qfl
  ·rw[dec_t (show(i:Int)<(s.2.2.2.2.2.2.length:Int) by omega),z9,gd_t (inB_t hi),z8]
   unfold ptB at hq;simp only[zb] at hq;simp only[qft,z7];rcases zX1 i with rfl | hp
   ·rw[dec_f (by omega),za]
    have e1:=hq.1;have e2:=hq.2.1;simp only[pt0] at e1 e2;rw[e1,e2]; rfl
   ·have e1:=hq.1;have e2:=hq.2.1;simp only[pt0] at e1 e2;rw[dec_t (show(0:Int)<(i:Int) by omega),z9,show wi64 ((i:Int)-1)=((i-1:Nat):Int) by rw[wi (by omega)]; omega,gd_t (inB_t (show i-1<_ by omega)),z8]
    have h3:=hq.2.2;simp only[zl1,zw] at h3;have h3:=h3.resolve_left (fun e=>by have:=zc e; omega)
    rw[dec_f (Int.not_le.2 h3),za,e1,e2,w1 hi (by omega)]; rfl
  ·rw[dec_t (show(i:Int)<(s.2.2.2.2.2.2.length:Int) by omega),z9,gd_t (inB_t hi),z8]
   unfold ptB at hq;simp only[qft,z7];simp only[pt0] at hq;rcases zX1 i with rfl | hp
   ·rw[dec_f (by omega),za]
    cases e1:rg (-500) 5000 (s.2.2.2.2.2.2.getD 0 (0,0,0)).2.1 with
    | false=>rfl
    | true=>
     cases e2:rg 0 100000000 (s.2.2.2.2.2.2.getD 0 (0,0,0)).2.2 with
     | false=>rfl
     | true=>rw[e1,e2] at hq; cases hq
   ·rw[dec_t (show(0:Int)<(i:Int) by omega),z9,show wi64 ((i:Int)-1)=((i-1:Nat):Int) by rw[wi (by omega)]; omega,gd_t (inB_t (show i-1<_ by omega)),z8]
    cases hd:decide ((s.2.2.2.2.2.2.getD i (0,0,0)).1<=(s.2.2.2.2.2.2.getD (i-1) (0,0,0)).1) with
    | true=>rfl
    | false=>
     have hd:=z41 hd;rw[show decide ((s.2.2.2.2.2.2.getD (i-1) (0,0,0)).1<(s.2.2.2.2.2.2.getD i (0,0,0)).1)=true from dec_t (by omega),Bool.or_true] at hq
     cases e1:rg (-500) 5000 (s.2.2.2.2.2.2.getD i (0,0,0)).2.1 with
     | false=>rfl
     | true=>
      cases e2:rg 0 100000000 (s.2.2.2.2.2.2.getD i (0,0,0)).2.2 with
      | false=>rfl
      | true=>rw[e1,e2] at hq; cases hq
  ·rw[dec_f (by omega)]; rfl
 rw[hl];simp only[qft,z7];rw[show wi64 ((s.2.2.2.2.2.2.length:Int)-1)=((s.2.2.2.2.2.2.length-1:Nat):Int) by rw[wi (by omega)]; omega,gd_t (inB0 (show 0<s.2.2.2.2.2.2.length by omega)),gd_t (inB_t (show s.2.2.2.2.2.2.length-1<s.2.2.2.2.2.2.length by omega)),z8]
 cases decide (s.2.1=s.2.2.1) <;> cases rg 1 1000000 s.2.2.2.1 <;> cases rg 0 1000 s.2.2.2.2.1 <;> cases rg 0 100000 s.2.2.2.2.2.1 <;> cases decide ((s.2.2.2.2.2.2.getD 0 (0,(0,0))).1=0) <;> cases decide ((s.2.2.2.2.2.2.getD (s.2.2.2.2.2.2.length-1) (0,(0,0))).1=s.2.2.2.1) <;> cases(List.range s.2.2.2.2.2.2.length).all (ptB s.2.2.2.2.2.2) <;> rfl
section
variable {a b c d:List Str} (ha:a.length<=100) (hb:b.length<=100) (hc:c.length<=100) (hd:d.length<=100)
include ha hb hc hd
theorem qAz:iter (fun x3=>qfT x3.1 x3.2.1 x3.2.2.1 x3.2.2.2.1 x3.2.2.2.2) (a,b,c,d,(0:Int))=some (bif (nm4 a b c d).all (fun l=>l.all nameB) then .inl () else .inr 3):=by
 have hin:∀i:Nat,i<4->iter (fun x2=>qdk a b c d (i:Int) x2.1 x2.2.1 x2.2.2.1 x2.2.2.2.1 x2.2.2.2.2) (a,b,c,d,(0:Int))=some (bif ((nm4 a b c d).getD i []).all nameB then .inl (a,b,c,d) else .inr 3):=by
  intro i hi;have hl:=len4 ha hb hc hd i;have e:∀x:Int,qdk a b c d (i:Int) a b c d x=qdk ((nm4 a b c d).getD i []) [] [] [] 0 a b c d x:=by
   intro x; unfold qdk; rw[z8]; rfl
  have:=qa2 (ε:=(List Str×List Str×List Str×List Str)⊕Int) (step:=fun x2:List Str×List Str×List Str×List Str×Int=>qdk a b c d (i:Int) x2.1 x2.2.1 x2.2.2.1 x2.2.2.2.1 x2.2.2.2.2) ((nm4 a b c d).getD i []).length (fun k=>(a,b,c,d,(k:Int))) (fun k=>nameB (((nm4 a b c d).getD i []).getD k [])) (fin:=.inl (a,b,c,d)) (bad:=.inr 3) (fun k hk _ hq=>?_) (fun k hk _ hq=>?_) (fun _=>?_)
  ·rw[qsv] at this; exact this
  all_goals simp only[e]; generalize (nm4 a b c d).getD i []=l at*
  ·show(bif decide ((k:Int)<(l.length:Int)) then(gd (inB (k:Int) l.length)<|(qcq (l.getD (k:Int).toNat [])).bind fun r4=>bif !r4 then _ else _) else _)=_
   rw[dec_t (show(k:Int)<(l.length:Int) by omega),z9,gd_t (inB_t hk),z8,quH,z7,hq,w1 hk (by omega)]; rfl
  ·show(bif decide ((k:Int)<(l.length:Int)) then(gd (inB (k:Int) l.length)<|(qcq (l.getD (k:Int).toNat [])).bind fun r4=>bif !r4 then _ else _) else _)=_
   rw[dec_t (show(k:Int)<(l.length:Int) by omega),z9,gd_t (inB_t hk),z8,quH,z7,hq]; rfl
  ·show(bif decide ((l.length:Int)<(l.length:Int)) then _ else _)=_;rw[dec_f (by omega)]; rfl
 have:=qa2 (ε:=Unit⊕Int) (step:=fun x3:List Str×List Str×List Str×List Str×Int=>qfT x3.1 x3.2.1 x3.2.2.1 x3.2.2.2.1 x3.2.2.2.2) 4 (fun i=>(a,b,c,d,(i:Int))) (fun i=>((nm4 a b c d).getD i []).all nameB) (fin:=.inl ()) (bad:=.inr 3) (fun i hi _ hq=>?_) (fun i hi _ hq=>?_) (fun _=>?_)
 ·rw[range4 (q:=fun l=>l.all nameB)] at this; exact this
 all_goals unfold qfT
 ·simp only;rw[dec_t (show(i:Int)<4 by omega),z9,gd_t (inB_t hi),hin i hi,z7,hq]
  simp only[z9,z21];rw[w1 hi (by omega)]
 ·simp only;rw[dec_t (show(i:Int)<4 by omega),z9,gd_t (inB_t hi),hin i hi,z7,hq]; rfl
 ·simp only;rw[dec_f (by omega)]; rfl
theorem qBZ:iter (fun x3=>qfU x3.1 x3.2.1 x3.2.2.1 x3.2.2.2.1 x3.2.2.2.2) (a,b,c,d,(0:Int))=some (bif (nm4 a b c d).any twL then .inr 7 else .inl ()):=by
 have:=qa2 (ε:=Unit⊕Int) (step:=fun x3:List Str×List Str×List Str×List Str×Int=>qfU x3.1 x3.2.1 x3.2.2.1 x3.2.2.2.1 x3.2.2.2.2) 4 (fun i=>(a,b,c,d,(i:Int))) (fun i=>!twL ((nm4 a b c d).getD i [])) (fin:=.inl ()) (bad:=.inr 7) (fun i hi _ hq=>?_) (fun i hi _ hq=>?_) (fun _=>?_)
 ·rw[range4n] at this;refine this.trans ?_
  cases(nm4 a b c d).any twL <;> rfl
 all_goals unfold qfU; simp only
 ·rw[dec_t (show(i:Int)<4 by omega),z9,gd_t (inB_t hi),z8]
  have:=len4 ha hb hc hd i;rw[quI ((nm4 a b c d).getD i []) (by omega),z7]
  simp only[zo] at hq;rw[hq,w1 hi (by omega)]; rfl
 ·rw[dec_t (show(i:Int)<4 by omega),z9,gd_t (inB_t hi),z8]
  have:=len4 ha hb hc hd i;rw[quI ((nm4 a b c d).getD i []) (by omega),z7]
  simp only[Bool.not_eq_false'] at hq;rw[hq]; rfl
 ·rw[dec_f (by omega)]; rfl
end
theorem qB0(n:Net)(hs:n.2.2.2.1.length<=100):iter (fun x=>qfW n x) 0=some (bif twS n.2.2.2.1 then .inr 7 else .inl ()):=by
 have hin:∀i:Nat,i<n.2.2.2.1.length->iter (fun x=>qfV n (i:Int) x) 0=some (bif (List.range i).any (fun k=>decide ((n.2.2.2.1.getD k sta0).2.1=(n.2.2.2.1.getD i sta0).2.1)) then .inr 7 else .inl ()):=by
  intro i hi;have:=scanN (ε:=Unit⊕Int) (step:=fun x=>qfV n (i:Int) x) i (fun k=>decide ((n.2.2.2.1.getD k sta0).2.1=(n.2.2.2.1.getD i sta0).2.1)) (fin:=.inl ()) (bad:=.inr 7) (fun k hk hq=>?_) (fun k hk hq=>?_) ?_
  ·exact this
  all_goals unfold qfV
  ·rw[dec_t (show(k:Int)<(i:Int) by omega),z9,gd_t (inB_t hi),gd_t (inB_t (show k<n.2.2.2.1.length by omega)),z8,z8,dec_f (fun e=>z41 hq e.symm),za,w1 hk (by omega)]
  ·rw[dec_t (show(k:Int)<(i:Int) by omega),z9,gd_t (inB_t hi),gd_t (inB_t (show k<n.2.2.2.1.length by omega)),z8,z8,dec_t (zi hq).symm,z9]
  ·rw[dec_f (by omega)]; rfl
 have:=scanN (ε:=Unit⊕Int) (step:=fun x=>qfW n x) n.2.2.2.1.length (fun i=>(List.range i).any fun k=>decide ((n.2.2.2.1.getD k sta0).2.1=(n.2.2.2.1.getD i sta0).2.1)) (fin:=.inl ()) (bad:=.inr 7) (fun k hk hq=>?_) (fun k hk hq=>?_) ?_
 ·exact this
 all_goals unfold qfW
 ·rw[dec_t (show(k:Int)<(n.2.2.2.1.length:Int) by omega),z9,hin k hk,z7,hq,w1 hk (by omega)]; rfl
 ·rw[dec_t (show(k:Int)<(n.2.2.2.1.length:Int) by omega),z9,hin k hk,z7,hq]; rfl
 ·rw[dec_f (by omega)]; rfl
theorem rgk(n:Net)(h:1<=n.1.length)(h2:n.1.length<=24)(k:Int):rg 0 (wi64 ((n.1.length:Int)-1)) k=kn n k:=by
 unfold rg kn;rw[wi (by omega)]
 congr 1;rw[zQ,zz,zz]; omega
theorem qfK(n:Net):qeL n=some (qbZ n):=by
 unfold qeL qbZ;simp only[qft,z7];have e0:rg 1 24 (n.1.length:Int)=(Nat.ble 1 n.1.length&&Nat.ble n.1.length 24):=by
  unfold rg; rw[zQ]; simp only[zb,zw,zp1]; omega
 have e3:decide (32<(n.2.1.length:Int))=!Nat.ble n.2.1.length 32:=by rw[<-bltn]; exact dlt (a:=32)
 have e4:decide (24<(n.2.2.1.length:Int))=!Nat.ble n.2.2.1.length 24:=by rw[<-bltn]; exact dlt (a:=24)
 have e5:decide (12<(n.2.2.2.1.length:Int))=!Nat.ble n.2.2.2.1.length 12:=by rw[<-bltn]; exact dlt (a:=12)
 rw[e0,e3,e4,e5];unfold limB;cases h1:Nat.ble 1 n.1.length
 ·rfl
 cases h2:Nat.ble n.1.length 24
 ·rfl
 cases h3:Nat.ble n.2.1.length 32
 ·rfl
 cases h4:Nat.ble n.2.2.1.length 24
 ·rfl
 cases h5:Nat.ble n.2.2.2.1.length 12
 ·rfl
 have g1:=zI h1;have g2:=zI h2;have g3:=zI h3;have g4:=zI h4;have g5:=zI h5;simp only[zd,za,z7,zI2,zF];have k0:=scanL (ε:=Int) (step:=fun x=>qea n x) n.2.1 sg0 (fun s=>Nat.ble 2 s.2.2.2.2.2.2.length&&Nat.ble s.2.2.2.2.2.2.length 8) (bad:=4) (fun i hi hq=>by
  unfold qea;rw[dec_t (show(i:Int)<(n.2.1.length:Int) by omega),z9,gd_t (inB_t hi),qft,z7,z8]
  simp only[zb,zp1] at hq;rw[show rg 2 8 ((n.2.1.getD i sg0).2.2.2.2.2.2.length:Int)=true by unfold rg; rw[dec_t (by omega),dec_t (by omega)]; rfl,w1 hi (by omega)]; rfl) (fun i hi hq=>by
  unfold qea;rw[dec_t (show(i:Int)<(n.2.1.length:Int) by omega),z9,gd_t (inB_t hi),qft,z7,z8]
  rw[show rg 2 8 ((n.2.1.getD i sg0).2.2.2.2.2.2.length:Int)=false by
   rw[<-hq]; unfold rg; rw[zQ]; simp only[zb,zw,zp1]; omega]; rfl) (by
  unfold qea;rw[dec_f (by omega)]; rfl)
 rw[k0,z7];cases hp:n.2.1.all (fun s=>Nat.ble 2 s.2.2.2.2.2.2.length&&Nat.ble s.2.2.2.2.2.2.length 8) with
 | false=>rfl
 | true=>
 have hs:Small n:=(qqj n).1 (by unfold limB; rw[h1,h2,h3,h4,h5,hp]; rfl)
 simp only[z9,z21];rw[qvS];show(qb1 n).bind _=_;rw[qtF (by omega) (by omega) (by omega),z7]
 simp only;rw[qAz (by omega) (by simp; omega) (by simp; omega) (by simp; omega),z7]
 show Sum.elim _ _ (bif formB n then _ else _)=_;cases formB n with
 | false=>rfl
 | true=>
 simp only[z9,z21];rw[qBZ (by omega) (by simp; omega) (by simp; omega) (by simp; omega),z7]
 unfold twB;show Sum.elim _ _ (bif (nmsOf n).any twL then _ else _)=_;cases(nmsOf n).any twL with
 | true=>rfl
 | false=>
 simp only[za,z21,zf2];rw[qB0 n (by omega),z7]
 cases twS n.2.2.2.1 with
 | true=>rfl
 | false=>
 simp only[za,z21];have k6:=scanL (ε:=Int) (step:=fun x=>qeb n x) n.2.1 sg0 (fun s=>kn n s.2.1&&kn n s.2.2.1) (bad:=8) (fun i hi hq=>by
  unfold qeb;rw[dec_t (show(i:Int)<(n.2.1.length:Int) by omega),z9,gd_t (inB_t hi),qft,z7,qft,z7,z8,rgk n g1 g2,rgk n g1 g2]
  simp only[zb] at hq;rw[hq.1,hq.2,w1 hi (by omega)]; rfl) (fun i hi hq=>by
  unfold qeb;rw[dec_t (show(i:Int)<(n.2.1.length:Int) by omega),z9,gd_t (inB_t hi),qft,z7,qft,z7,z8,rgk n g1 g2,rgk n g1 g2]
  revert hq
  cases kn n (n.2.1.getD i sg0).2.1 <;> cases kn n (n.2.1.getD i sg0).2.2.1 <;> intro hq <;> first | rfl | cases hq) (by
  unfold qeb;rw[dec_f (by omega)]; rfl)
 rw[k6,z7];unfold knB;cases n.2.1.all (fun s=>kn n s.2.1&&kn n s.2.2.1) with
 | false=>rfl
 | true=>
 simp only[z9,z21,zF];have k7:=scanL (ε:=Int) (step:=fun x=>qec n x) n.2.2.1 po0 (fun s=>kn n s.2.1) (bad:=8) (fun i hi hq=>by
  unfold qec;rw[dec_t (show(i:Int)<(n.2.2.1.length:Int) by omega),z9,gd_t (inB_t hi),qft,z7,z8,rgk n g1 g2,hq,w1 hi (by omega)]; rfl) (fun i hi hq=>by
  unfold qec;rw[dec_t (show(i:Int)<(n.2.2.1.length:Int) by omega),z9,gd_t (inB_t hi),qft,z7,z8,rgk n g1 g2,hq]; rfl) (by
  unfold qec;rw[dec_f (by omega)]; rfl)
 rw[k7,z7];cases n.2.2.1.all (fun s=>kn n s.2.1) with
 | false=>rfl
 | true=>
 simp only[z9,z21,zF];have k8:=scanL (ε:=Int) (step:=fun x=>qed n x) n.2.2.2.1 sta0 (fun s=>kn n s.2.1) (bad:=8) (fun i hi hq=>by
  unfold qed;rw[dec_t (show(i:Int)<(n.2.2.2.1.length:Int) by omega),z9,gd_t (inB_t hi),qft,z7,z8,rgk n g1 g2,hq,w1 hi (by omega)]; rfl) (fun i hi hq=>by
  unfold qed;rw[dec_t (show(i:Int)<(n.2.2.2.1.length:Int) by omega),z9,gd_t (inB_t hi),qft,z7,z8,rgk n g1 g2,hq]; rfl) (by
  unfold qed;rw[dec_f (by omega)]; rfl)
 rw[k8,z7];cases n.2.2.2.1.all (fun s=>kn n s.2.1) with
 | false=>rfl
 | true=>
 simp only[z9,z21];unfold prB;have k9:=scanL (ε:=Int) (step:=fun x=>qee n x) n.2.1 sg0 pipeB (bad:=9) (fun i hi hq=>by
  unfold qee;rw[dec_t (show(i:Int)<(n.2.1.length:Int) by omega),z9,gd_t (inB_t hi),z8]
  have:=hs.pt _ (qaY (d:=sg0) hi);show(qeU (n.2.1.getD i sg0)).bind _=_;rw[qsw this.1 this.2,z7,hq,w1 hi (by omega)]; rfl) (fun i hi hq=>by
  unfold qee;rw[dec_t (show(i:Int)<(n.2.1.length:Int) by omega),z9,gd_t (inB_t hi),z8]
  have:=hs.pt _ (qaY (d:=sg0) hi);show(qeU (n.2.1.getD i sg0)).bind _=_;rw[qsw this.1 this.2,z7,hq]; rfl) (by
  unfold qee;rw[dec_f (by omega)]; rfl)
 rw[k9,z7];cases n.2.1.all pipeB with
 | false=>rfl
 | true=>
 simp only[z9,z21,zF];have k10:=scanL (ε:=Int) (step:=fun x=>qdD n x) n.2.2.1 po0 (fun p=>rg 0 100000000 p.2.2) (bad:=9) (fun i hi hq=>by
  unfold qdD;rw[dec_t (show(i:Int)<(n.2.2.1.length:Int) by omega),z9,gd_t (inB_t hi),qft,z7,z8,hq,w1 hi (by omega)]; rfl) (fun i hi hq=>by
  unfold qdD;rw[dec_t (show(i:Int)<(n.2.2.1.length:Int) by omega),z9,gd_t (inB_t hi),qft,z7,z8,hq]; rfl) (by
  unfold qdD;rw[dec_f (by omega)]; rfl)
 rw[k10,z7];cases n.2.2.1.all (fun p=>rg 0 100000000 p.2.2) with
 | false=>rfl
 | true=>
 simp only[z9,z21,zF];have k11:=scanL (ε:=Int) (step:=fun x=>qdE n x) n.2.2.2.1 sta0 stB (bad:=9) (fun i hi hq=>by
  unfold qdE;unfold stB at hq;simp only[zb,sta0] at hq;simp only[qft,z7];rw[dec_t (show(i:Int)<(n.2.2.2.1.length:Int) by omega),z9,gd_t (inB_t hi),z8,hq.1,hq.2.1,hq.2.2,w1 hi (by omega)]; rfl) (fun i hi hq=>by
  unfold qdE;unfold stB at hq;simp only[sta0] at hq;simp only[qft,z7];rw[dec_t (show(i:Int)<(n.2.2.2.1.length:Int) by omega),z9,gd_t (inB_t hi),z8]
  revert hq
  cases rg 0 100000000 (n.2.2.2.1.getD i ([],0,0,0,0)).2.2.1 <;> cases rg 0 100000 (n.2.2.2.1.getD i ([],0,0,0,0)).2.2.2.1 <;> cases rg 0 100000000 (n.2.2.2.1.getD i ([],0,0,0,0)).2.2.2.2 <;> intro hq <;> first | rfl | cases hq) (by
  unfold qdE;rw[dec_f (by omega)]; rfl)
 rw[k11,z7];cases n.2.2.2.1.all stB with
 | false=>rfl
 | true=>
 simp only[z9,z21,zF,z7];cases rg (-100000) 100000000 n.2.2.2.2.1 <;> cases rg 0 100 n.2.2.2.2.2 <;> rfl
end Go.Proofs.YtgmjmgihjjddmaaGreat
namespace Go.Proofs.YtgmjmgihjjddmaaGreat
open Go Go.Sq
theorem qqk(c:UInt8)(hc:c∈[(110:UInt8),103,113,115,112]){m:Nat}(hm:m<=26):(nms c m).all nameB=true:=by
 have key:∀c∈[(110:UInt8),103,113,115,112],∀i∈List.range 26,nameB (nm c i)=true:=by decide +kernel
 rw[zt];intro x hx;obtain⟨j,hj,rfl⟩:=qBX hx;exact key c hc j (zK.2 (by omega))
theorem qoT{l:List Str}(h:l.Nodup):twL l=false:=by
 unfold twL;rw[zx2];intro i hi;rw[z82,zx2];intro k hk;have hi:=zK.1 hi;have hk:=zK.1 hk;rw[zw];intro he;rw[zj,zj,zk (by omega),zk (by omega)] at he
 have:=(List.getElem_inj h (h₀:=hi) (h₁:=(by omega:k<l.length))).1 he
 omega
theorem rg_t{lo hi x:Int}(h:lo<=x/\x<=hi):rg lo hi x=true:=by
 unfold rg;rw[zd1 h.1,zd1 h.2]; rfl
theorem qCR{k:Nat}{s:Seg}(h:SegP k s):pipeB s=true:=by
 have a1:=h.pts.l2;unfold pipeB;rw[zr2 h.ne,rg_t h.cap,rg_t h.res,rg_t h.wav];have e1:(s.2.2.2.2.2.2.getD 0 pt0).1=0:=h.pts.fst;have e2:(s.2.2.2.2.2.2.getD (s.2.2.2.2.2.2.length-1) pt0).1=s.2.2.2.1:=h.pts.lst;rw[zd1 e1,zd1 e2];simp only[z91,Bool.and_self,zF,zI2];rw[zt];intro i hi;have hi:=zK.1 hi;have hr:=h.pts.rng _ (qaY (d:=pt0) hi);unfold ptB;rw[rg_t ⟨hr.1,hr.2.1⟩,rg_t ⟨hr.2.2.1,hr.2.2.2⟩];simp only[zF];cases i with
 | zero=>rfl
 | succ j=>
  have:=h.pts.inc j hi;have e3:(s.2.2.2.2.2.2.getD (j+1-1) pt0).1<(s.2.2.2.2.2.2.getD (j+1) pt0).1:=this;rw[zd1 e3,Bool.or_true]
theorem chk0{k:Nat}{n:Net}(h:NetP k n):qbZ n=0:=by
 have a1:=h.k2; have a2:=h.k6; have a3:=h.segs.len; have a4:=h.ports.len; have a5:=h.stats.len; have a6:=h.some';have e:n.1.length=k:=by rw[h.nodes,qny]
 have hl:limB n=true:=(qqj n).2 ⟨by omega,by omega,by omega,by omega,by omega,fun s hs=>⟨(h.segs.rng s hs).pts.l2,(h.segs.rng s hs).pts.l8⟩⟩
 have hf:formB n=true:=by
  unfold formB nmsOf;rw[h.nodes,h.segs.nam,h.ports.nam,h.stats.nam];simp only[zt1,List.all_nil];rw[qqk 110 (by decide) (by omega),qqk 103 (by decide) (by omega),qqk 113 (by decide) (by omega),qqk 115 (by decide) (by omega)]; rfl
 have ht:twB n=false:=by
  unfold twB nmsOf;rw[h.nodes,h.segs.nam,h.ports.nam,h.stats.nam];simp only[List.any_cons,List.any_nil];rw[qoT (qoS 110 (by omega)),qoT (qoS 103 (by omega)),qoT (qoS 113 (by omega)),qoT (qoS 115 (by omega))]
  simp only[Bool.or_self,zf2];unfold twS;rw[zx2];intro i hi;rw[z82,zx2];intro q hq;have hi:=zK.1 hi;have hq:=zK.1 hq;rw[zw];intro he;have hd:=h.stats.dif;have e1:∀j (hj:j<n.2.2.2.1.length),(n.2.2.2.1.getD j sta0).2.1=(n.2.2.2.1.map (·.2.1))[j]'(by simpa using hj):=fun j hj=>by
   rw[List.getElem_map,zj,zk hj]; rfl
  rw[e1 q (by omega),e1 i hi] at he
  have:=(List.getElem_inj hd).1 he;omega
 have hk:knB n=true:=by
  unfold knB kn;rw[zb,zb,zt,zt,zt];refine⟨fun s hs=>?_,fun s hs=>?_,fun s hs=>?_⟩
  ·have:=h.segs.rng s hs;have b1:=this.f0; have b2:=this.f1; have b3:=this.t0; have b4:=this.t1;rw[zd1 b1,zd1 b3,zd1 (by omega),zd1 (by omega)]; rfl
  ·have:=h.ports.rng s hs;rw[zd1 this.1,zd1 (by omega)]; rfl
  ·have:=h.stats.rng s hs;rw[zd1 this.1,zd1 (by omega)]; rfl
 have hp:prB n=true:=by
  unfold prB;rw[rg_t h.vap,rg_t h.set,zt.2 fun s hs=>qCR (h.segs.rng s hs),zt.2 fun s hs=>rg_t (h.ports.rng s hs).2.2,zt.2 fun s hs=>?_]
  ·rfl
  ·have:=h.stats.rng s hs;unfold stB;rw[rg_t this.2.2.1,rg_t this.2.2.2.1,rg_t this.2.2.2.2]; rfl
 unfold qbZ;rw[hl,hf,ht,hk,hp]; rfl
end Go.Proofs.YtgmjmgihjjddmaaGreat
