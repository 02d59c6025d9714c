/- slices.IndexFunc and slices.ContainsFunc as findIdx and any. No condition. -/
import Derived.Test.YtfdgemafaphpaaaGreatNk0
import Derived.Test.YtfdgemafaphpaaaGreatLa1
import Derived.Test.YtfdgemafaphpaaaGreatLa2
namespace Go.Proofs.YtfdgemafaphpaaaGreat
open Go Go.Sq
theorem qhS(s:List (List UInt8×Int×Int×Int×Int×Int×List (Int×Int×Int)))(p:(List UInt8×Int×Int×Int×Int×Int×List (Int×Int×Int))->Bool)(f:(List UInt8×Int×Int×Int×Int×Int×List (Int×Int×Int))×Unit->Option Bool)(hf:∀x∈s,f (x,())=some (p x))(hl:s.length<=1000000):qaH s f=some (if s.findIdx p<s.length then((s.findIdx p:Nat):Int) else -1):=by
 unfold qaH;have h:iter (fun x=>qaf s f x) 0=some (if s.findIdx p<s.length then .inr ((s.findIdx p:Nat):Int) else .inl ()):=by
  refine qfE (step:=fun y=>qaf s f y) (ε:=Unit⊕Int) s ([],0,0,0,0,0,[]) p (fin:=.inl ()) (fun i=>.inr (i:Int)) (fun i hi hq=>?_) (fun i hi hq=>?_) ?_
  ·unfold qaf;rw[dec_t (show(i:Int)<(s.length:Int) by omega),zb,gd_t (inB_t hi),z8,hf _ (qaU hi),z7,hq,za,w1 hi (by omega)]
  ·unfold qaf;rw[dec_t (show(i:Int)<(s.length:Int) by omega),zb,gd_t (inB_t hi),z8,hf _ (qaU hi),z7,hq,zb]
  ·unfold qaf;rw[dec_f (by omega)]; rfl
 rw[h,z7];by_cases hf:s.findIdx p<s.length
 ·rw[if_pos hf,if_pos hf]; rfl
 ·rw[if_neg hf,if_neg hf]; rfl
theorem qdI(s:List (List UInt8×Int×Int×Int×Int×Int×List (Int×Int×Int)))(p:(List UInt8×Int×Int×Int×Int×Int×List (Int×Int×Int))->Bool)(f:(List UInt8×Int×Int×Int×Int×Int×List (Int×Int×Int))×Unit->Option Bool)(hf:∀x∈s,f (x,())=some (p x))(hl:s.length<=1000000):qap s f=some (s.any p):=by
 unfold qap;rw[qhS s p f hf hl,z7,<-qe2];by_cases hf:s.findIdx p<s.length
 ·rw[if_pos hf,dec_t hf,dec_t (by omega)]
 ·rw[if_neg hf,dec_f hf,dec_f (by omega)]
theorem qpa(s:List (List UInt8))(p:(List UInt8)->Bool)(f:(List UInt8)×Unit->Option Bool)(hf:∀x∈s,f (x,())=some (p x))(hl:s.length<=1000000):qbf s f=some (if s.findIdx p<s.length then((s.findIdx p:Nat):Int) else -1):=by
 unfold qbf;have h:iter (fun x=>qaz s f x) 0=some (if s.findIdx p<s.length then .inr ((s.findIdx p:Nat):Int) else .inl ()):=by
  refine qfE (step:=fun y=>qaz s f y) (ε:=Unit⊕Int) s [] p (fin:=.inl ()) (fun i=>.inr (i:Int)) (fun i hi hq=>?_) (fun i hi hq=>?_) ?_
  ·unfold qaz;rw[dec_t (show(i:Int)<(s.length:Int) by omega),zb,gd_t (inB_t hi),z8,hf _ (qaU hi),z7,hq,za,w1 hi (by omega)]
  ·unfold qaz;rw[dec_t (show(i:Int)<(s.length:Int) by omega),zb,gd_t (inB_t hi),z8,hf _ (qaU hi),z7,hq,zb]
  ·unfold qaz;rw[dec_f (by omega)]; rfl
 rw[h,z7];by_cases hf:s.findIdx p<s.length
 ·rw[if_pos hf,if_pos hf]; rfl
 ·rw[if_neg hf,if_neg hf]; rfl
theorem qjj(s:List (List UInt8))(p:(List UInt8)->Bool)(f:(List UInt8)×Unit->Option Bool)(hf:∀x∈s,f (x,())=some (p x))(hl:s.length<=1000000):qaA s f=some (s.any p):=by
 unfold qaA;rw[qpa s p f hf hl,z7,<-qe2];by_cases hf:s.findIdx p<s.length
 ·rw[if_pos hf,dec_t hf,dec_t (by omega)]
 ·rw[if_neg hf,dec_f hf,dec_f (by omega)]
theorem qdJ(s:List (List UInt8×Int×Int×Int×Int))(p:(List UInt8×Int×Int×Int×Int)->Bool)(f:(List UInt8×Int×Int×Int×Int)×Unit->Option Bool)(hf:∀x∈s,f (x,())=some (p x))(hl:s.length<=1000000):qam s f=some (if s.findIdx p<s.length then((s.findIdx p:Nat):Int) else -1):=by
 unfold qam;have h:iter (fun x=>qag s f x) 0=some (if s.findIdx p<s.length then .inr ((s.findIdx p:Nat):Int) else .inl ()):=by
  refine qfE (step:=fun y=>qag s f y) (ε:=Unit⊕Int) s ([],0,0,0,0) p (fin:=.inl ()) (fun i=>.inr (i:Int)) (fun i hi hq=>?_) (fun i hi hq=>?_) ?_
  ·unfold qag;rw[dec_t (show(i:Int)<(s.length:Int) by omega),zb,gd_t (inB_t hi),z8,hf _ (qaU hi),z7,hq,za,w1 hi (by omega)]
  ·unfold qag;rw[dec_t (show(i:Int)<(s.length:Int) by omega),zb,gd_t (inB_t hi),z8,hf _ (qaU hi),z7,hq,zb]
  ·unfold qag;rw[dec_f (by omega)]; rfl
 rw[h,z7];by_cases hf:s.findIdx p<s.length
 ·rw[if_pos hf,if_pos hf]; rfl
 ·rw[if_neg hf,if_neg hf]; rfl
theorem qhT(s:List (List UInt8×Int×Int×Int×Int))(p:(List UInt8×Int×Int×Int×Int)->Bool)(f:(List UInt8×Int×Int×Int×Int)×Unit->Option Bool)(hf:∀x∈s,f (x,())=some (p x))(hl:s.length<=1000000):qaD s f=some (s.any p):=by
 unfold qaD;rw[qdJ s p f hf hl,z7,<-qe2];by_cases hf:s.findIdx p<s.length
 ·rw[if_pos hf,dec_t hf,dec_t (by omega)]
 ·rw[if_neg hf,dec_f hf,dec_f (by omega)]
theorem qwm(s:List (Int))(p:(Int)->Bool)(f:(Int)×Unit->Option Bool)(hf:∀x∈s,f (x,())=some (p x))(hl:s.length<=1000000):qbS s f=some (if s.findIdx p<s.length then((s.findIdx p:Nat):Int) else -1):=by
 unfold qbS;have h:iter (fun x=>qaP s f x) 0=some (if s.findIdx p<s.length then .inr ((s.findIdx p:Nat):Int) else .inl ()):=by
  refine qfE (step:=fun y=>qaP s f y) (ε:=Unit⊕Int) s 0 p (fin:=.inl ()) (fun i=>.inr (i:Int)) (fun i hi hq=>?_) (fun i hi hq=>?_) ?_
  ·unfold qaP;rw[dec_t (show(i:Int)<(s.length:Int) by omega),zb,gd_t (inB_t hi),z8,hf _ (qaU hi),z7,hq,za,w1 hi (by omega)]
  ·unfold qaP;rw[dec_t (show(i:Int)<(s.length:Int) by omega),zb,gd_t (inB_t hi),z8,hf _ (qaU hi),z7,hq,zb]
  ·unfold qaP;rw[dec_f (by omega)]; rfl
 rw[h,z7];by_cases hf:s.findIdx p<s.length
 ·rw[if_pos hf,if_pos hf]; rfl
 ·rw[if_neg hf,if_neg hf]; rfl
theorem qnj(s:List (Int))(p:(Int)->Bool)(f:(Int)×Unit->Option Bool)(hf:∀x∈s,f (x,())=some (p x))(hl:s.length<=1000000):qaF s f=some (s.any p):=by
 unfold qaF;rw[qwm s p f hf hl,z7,<-qe2];by_cases hf:s.findIdx p<s.length
 ·rw[if_pos hf,dec_t hf,dec_t (by omega)]
 ·rw[if_neg hf,dec_f hf,dec_f (by omega)]
theorem qlF(s:List (List UInt8×Int×Int))(p:(List UInt8×Int×Int)->Bool)(f:(List UInt8×Int×Int)×Unit->Option Bool)(hf:∀x∈s,f (x,())=some (p x))(hl:s.length<=1000000):qa2 s f=some (if s.findIdx p<s.length then((s.findIdx p:Nat):Int) else -1):=by
 unfold qa2;have h:iter (fun x=>qar s f x) 0=some (if s.findIdx p<s.length then .inr ((s.findIdx p:Nat):Int) else .inl ()):=by
  refine qfE (step:=fun y=>qar s f y) (ε:=Unit⊕Int) s ([],0,0) p (fin:=.inl ()) (fun i=>.inr (i:Int)) (fun i hi hq=>?_) (fun i hi hq=>?_) ?_
  ·unfold qar;rw[dec_t (show(i:Int)<(s.length:Int) by omega),zb,gd_t (inB_t hi),z8,hf _ (qaU hi),z7,hq,za,w1 hi (by omega)]
  ·unfold qar;rw[dec_t (show(i:Int)<(s.length:Int) by omega),zb,gd_t (inB_t hi),z8,hf _ (qaU hi),z7,hq,zb]
  ·unfold qar;rw[dec_f (by omega)]; rfl
 rw[h,z7];by_cases hf:s.findIdx p<s.length
 ·rw[if_pos hf,if_pos hf]; rfl
 ·rw[if_neg hf,if_neg hf]; rfl
theorem qlG(s:List (List UInt8×Int×Int))(p:(List UInt8×Int×Int)->Bool)(f:(List UInt8×Int×Int)×Unit->Option Bool)(hf:∀x∈s,f (x,())=some (p x))(hl:s.length<=1000000):qaN s f=some (s.any p):=by
 unfold qaN;rw[qlF s p f hf hl,z7,<-qe2];by_cases hf:s.findIdx p<s.length
 ·rw[if_pos hf,dec_t hf,dec_t (by omega)]
 ·rw[if_neg hf,dec_f hf,dec_f (by omega)]
theorem qj8(s:List (Int×Int×Bool×Bool))(p:(Int×Int×Bool×Bool)->Bool)(f:(Int×Int×Bool×Bool)×Unit->Option Bool)(hf:∀x∈s,f (x,())=some (p x))(hl:s.length<=1000000):qaS s f=some (if s.findIdx p<s.length then((s.findIdx p:Nat):Int) else -1):=by
 unfold qaS;have h:iter (fun x=>qao s f x) 0=some (if s.findIdx p<s.length then .inr ((s.findIdx p:Nat):Int) else .inl ()):=by
  refine qfE (step:=fun y=>qao s f y) (ε:=Unit⊕Int) s (0,0,false,false) p (fin:=.inl ()) (fun i=>.inr (i:Int)) (fun i hi hq=>?_) (fun i hi hq=>?_) ?_
  ·unfold qao;rw[dec_t (show(i:Int)<(s.length:Int) by omega),zb,gd_t (inB_t hi),z8,hf _ (qaU hi),z7,hq,za,w1 hi (by omega)]
  ·unfold qao;rw[dec_t (show(i:Int)<(s.length:Int) by omega),zb,gd_t (inB_t hi),z8,hf _ (qaU hi),z7,hq,zb]
  ·unfold qao;rw[dec_f (by omega)]; rfl
 rw[h,z7];by_cases hf:s.findIdx p<s.length
 ·rw[if_pos hf,if_pos hf]; rfl
 ·rw[if_neg hf,if_neg hf]; rfl
theorem qj9(s:List (Int×Int×Bool×Bool))(p:(Int×Int×Bool×Bool)->Bool)(f:(Int×Int×Bool×Bool)×Unit->Option Bool)(hf:∀x∈s,f (x,())=some (p x))(hl:s.length<=1000000):qav s f=some (s.any p):=by
 unfold qav;rw[qj8 s p f hf hl,z7,<-qe2];by_cases hf:s.findIdx p<s.length
 ·rw[if_pos hf,dec_t hf,dec_t (by omega)]
 ·rw[if_neg hf,dec_f hf,dec_f (by omega)]
theorem qnk(s:List (Int×Bool))(p:(Int×Bool)->Bool)(f:(Int×Bool)×Unit->Option Bool)(hf:∀x∈s,f (x,())=some (p x))(hl:s.length<=1000000):qa7 s f=some (if s.findIdx p<s.length then((s.findIdx p:Nat):Int) else -1):=by
 unfold qa7;have h:iter (fun x=>qau s f x) 0=some (if s.findIdx p<s.length then .inr ((s.findIdx p:Nat):Int) else .inl ()):=by
  refine qfE (step:=fun y=>qau s f y) (ε:=Unit⊕Int) s (0,false) p (fin:=.inl ()) (fun i=>.inr (i:Int)) (fun i hi hq=>?_) (fun i hi hq=>?_) ?_
  ·unfold qau;rw[dec_t (show(i:Int)<(s.length:Int) by omega),zb,gd_t (inB_t hi),z8,hf _ (qaU hi),z7,hq,za,w1 hi (by omega)]
  ·unfold qau;rw[dec_t (show(i:Int)<(s.length:Int) by omega),zb,gd_t (inB_t hi),z8,hf _ (qaU hi),z7,hq,zb]
  ·unfold qau;rw[dec_f (by omega)]; rfl
 rw[h,z7];by_cases hf:s.findIdx p<s.length
 ·rw[if_pos hf,if_pos hf]; rfl
 ·rw[if_neg hf,if_neg hf]; rfl
theorem qnl(s:List (Int×Bool))(p:(Int×Bool)->Bool)(f:(Int×Bool)×Unit->Option Bool)(hf:∀x∈s,f (x,())=some (p x))(hl:s.length<=1000000):qaZ s f=some (s.any p):=by
 unfold qaZ;rw[qnk s p f hf hl,z7,<-qe2];by_cases hf:s.findIdx p<s.length
 ·rw[if_pos hf,dec_t hf,dec_t (by omega)]
 ·rw[if_neg hf,dec_f hf,dec_f (by omega)]
end Go.Proofs.YtfdgemafaphpaaaGreat
namespace Go.Proofs.YtfdgemafaphpaaaGreat
open Go Go.Sq
set_option linter.unusedVariables false
abbrev pt0:Pt:=(0,0,0)
abbrev sg0:Seg:=([],0,0,0,0,0,[])
abbrev po0:Port:=([],0,0)
abbrev sta0:Stat:=([],0,0,0,0)
def rg(lo hi n:Int):Bool:=decide (lo<=n)&&decide (n<=hi)
def limB(n:Net):Bool:=Nat.ble 1 n.1.length&&(Nat.ble n.1.length 24&&(Nat.ble n.2.1.length 32&&(Nat.ble n.2.2.1.length 24&&Nat.ble n.2.2.2.1.length 12)))&&n.2.1.all fun s=>Nat.ble 2 s.2.2.2.2.2.2.length&&Nat.ble s.2.2.2.2.2.2.length 8
def nmsOf(n:Net):List (List Str):=[n.1,n.2.1.map (·.1),n.2.2.1.map (·.1),n.2.2.2.1.map (·.1)]
def formB(n:Net):Bool:=(nmsOf n).all fun l=>l.all nameB
def twL(l:List Str):Bool:=(List.range l.length).any fun i=>(List.range i).any fun k=>decide (l.getD i []=l.getD k [])
def twS(l:List Stat):Bool:=(List.range l.length).any fun i=>(List.range i).any fun k=>decide ((l.getD k sta0).2.1=(l.getD i sta0).2.1)
def twB(n:Net):Bool:=(nmsOf n).any twL || twS n.2.2.2.1
def kn(n:Net)(k:Int):Bool:=decide (0<=k)&&decide (k<(n.1.length:Int))
def knB(n:Net):Bool:=n.2.1.all (fun s=>kn n s.2.1&&kn n s.2.2.1)&&(n.2.2.1.all (fun p=>kn n p.2.1)&&n.2.2.2.1.all (fun s=>kn n s.2.1))
def ptB(l:List Pt)(i:Nat):Bool:=rg (-500) 5000 (l.getD i pt0).2.1&&(rg 0 100000000 (l.getD i pt0).2.2&&(Nat.beq i 0 || decide ((l.getD (i-1) pt0).1<(l.getD i pt0).1)))
def pipeB(s:Seg):Bool:=!decide (s.2.1=s.2.2.1)&&(rg 1 1000000 s.2.2.2.1&&(rg 0 1000 s.2.2.2.2.1&&rg 0 100000 s.2.2.2.2.2.1))&&((List.range s.2.2.2.2.2.2.length).all (ptB s.2.2.2.2.2.2)&&(decide ((s.2.2.2.2.2.2.getD 0 pt0).1=0)&&decide ((s.2.2.2.2.2.2.getD (s.2.2.2.2.2.2.length-1) pt0).1=s.2.2.2.1)))
def stB(s:Stat):Bool:=rg 0 100000000 s.2.2.1&&(rg 0 100000 s.2.2.2.1&&rg 0 100000000 s.2.2.2.2)
def prB(n:Net):Bool:=n.2.1.all pipeB&&(n.2.2.1.all (fun p=>rg 0 100000000 p.2.2)&&(n.2.2.2.1.all stB&&(rg (-100000) 100000000 n.2.2.2.2.1&&rg 0 100 n.2.2.2.2.2)))
def qcc(n:Net):Int:=bif limB n then(bif formB n then(bif twB n then 7 else bif knB n then(bif prB n then 0 else 9) else 8) else 3) else 4
structure Small(n:Net):Prop where
 no1:1<=n.1.length
 no:n.1.length<=24
 sg:n.2.1.length<=32
 po:n.2.2.1.length<=24
 st:n.2.2.2.1.length<=12
 pt:∀s∈n.2.1,2<=s.2.2.2.2.2.2.length/\s.2.2.2.2.2.2.length<=8
theorem qqg(n:Net):limB n=true↔Small n:=by
 unfold limB;simp only[z9,zC1,zx];constructor
 ·rintro⟨⟨h1,h2,h3,h4,h5⟩,h6⟩; exact⟨h1,h2,h3,h4,h5,h6⟩
 ·rintro⟨h1,h2,h3,h4,h5,h6⟩; exact⟨⟨h1,h2,h3,h4,h5⟩,h6⟩
theorem qjk(n lo hi:Int):qbT n lo hi=some (rg lo hi n):=by
 unfold qbT rg;cases decide (lo<=n) <;> rfl
theorem qfI(n lo hi:Int):qbD n lo hi=some (rg lo hi n):=by
 unfold qbD rg;cases decide (lo<=n) <;> rfl
theorem dlt{a b:Nat}:decide ((a:Int)<(b:Int))=Nat.blt a b:=by
 rw[zZ,zA,zS]; omega
theorem bltn(a b:Nat):Nat.blt a b=!Nat.ble b a:=by
 rw[zZ,zS,zu];constructor
 ·intro h; exact zV.2 fun hh=>by have:=zN hh; omega
 ·intro h; rcases zm2 a b with h' | h'
  ·exact h'
  ·rw[Nat.ble_eq_true_of_le h'] at h; cases h
theorem qzI(n:Net):qej n=some (limB n):=by
 unfold qej limB;have e1:decide ((n.1.length:Int)<1)=!Nat.ble 1 n.1.length:=by rw[<-bltn]; exact dlt (b:=1)
 have e2:decide (24<(n.1.length:Int))=!Nat.ble n.1.length 24:=by rw[<-bltn]; exact dlt (a:=24)
 have e3:decide (32<(n.2.1.length:Int))=!Nat.ble n.2.1.length 32:=by rw[<-bltn]; exact dlt (a:=32)
 have e4:decide (24<(n.2.2.1.length:Int))=!Nat.ble n.2.2.1.length 24:=by rw[<-bltn]; exact dlt (a:=24)
 have e5:decide (12<(n.2.2.2.1.length:Int))=!Nat.ble n.2.2.2.1.length 12:=by rw[<-bltn]; exact dlt (a:=12)
 rw[e1,e2,e3,e4,e5];cases h1:Nat.ble 1 n.1.length
 ·rfl
 cases h2:Nat.ble n.1.length 24
 ·rfl
 cases h3:Nat.ble n.2.1.length 32
 ·rfl
 cases h4:Nat.ble n.2.2.1.length 24
 ·rfl
 cases h5:Nat.ble n.2.2.2.1.length 12
 ·rfl
 have h3:=zN h3;simp only[ze,za,z7,zN2,zF];rw[qdI n.2.1 (fun s=>!(Nat.ble 2 s.2.2.2.2.2.2.length&&Nat.ble s.2.2.2.2.2.2.length 8)) _ (fun x _=>by
  unfold qgK;have f1:decide ((x.2.2.2.2.2.2.length:Int)<2)=!Nat.ble 2 x.2.2.2.2.2.2.length:=by rw[<-bltn]; exact dlt (b:=2)
  have f2:decide (8<(x.2.2.2.2.2.2.length:Int))=!Nat.ble x.2.2.2.2.2.2.length 8:=by rw[<-bltn]; exact dlt (a:=8)
  simp only[f1,f2];cases Nat.ble 2 x.2.2.2.2.2.2.length <;> cases Nat.ble x.2.2.2.2.2.2.length 8 <;> rfl) (by omega),z7]
 congr 1;simp[zc1]
theorem qtQ{n:Net}(h1:n.2.1.length<=1000)(h2:n.2.2.1.length<=1000)(h3:n.2.2.2.1.length<=1000):qb3 n=some (n.1,n.2.1.map (·.1),n.2.2.1.map (·.1),n.2.2.2.1.map (·.1)):=by
 unfold qb3;have k1:=qaG (step:=fun x:Int×List (List UInt8)=>qeC n x.1 x.2) n.2.1.length (fun i=>((i:Int),(n.2.1.map (·.1)).take i)) (e:=n.2.1.map (·.1)) (fun i hi=>by
  unfold qeC;simp only[dec_t (show(i:Int)<(n.2.1.length:Int) by omega),zb,gd_t (inB_t hi),z8]
  rw[gd_t (qaj (by rw[zk]; omega)),w1 hi (by omega),qdu ([]:List UInt8) (by simpa using hi),qgR (·.1) n.2.1 i sg0 [] hi]) (by
  unfold qeC;simp only[dec_f (show ¬(n.2.1.length:Int)<(n.2.1.length:Int) by omega),za]
  rw[zr (by simp)])
 rw[show((((0:Nat):Int),(n.2.1.map (·.1)).take 0):Int×List (List UInt8))=(0,[]) from rfl] at k1
 rw[k1,z7];generalize n.2.1.map (·.1)=A;have k2:=qaG (step:=fun x:Int×List (List UInt8)×List (List UInt8)=>qeD n x.1 x.2.1 x.2.2) n.2.2.1.length (fun i=>((i:Int),A,(n.2.2.1.map (·.1)).take i)) (e:=(A,n.2.2.1.map (·.1))) (fun i hi=>by
  unfold qeD;simp only[dec_t (show(i:Int)<(n.2.2.1.length:Int) by omega),zb,gd_t (inB_t hi),z8]
  rw[gd_t (qaj (by rw[zk]; omega)),w1 hi (by omega),qdu ([]:List UInt8) (by simpa using hi),qgR (·.1) n.2.2.1 i po0 [] hi]) (by
  unfold qeD;simp only[dec_f (show ¬(n.2.2.1.length:Int)<(n.2.2.1.length:Int) by omega),za]
  rw[zr (by simp)])
 rw[show((((0:Nat):Int),A,(n.2.2.1.map (·.1)).take 0):Int×List (List UInt8)×List (List UInt8))=(0,A,[]) from rfl] at k2
 rw[k2,z7];simp only;generalize n.2.2.1.map (·.1)=B;have k3:=qaG (step:=fun x:Int×List (List UInt8)×List (List UInt8)×List (List UInt8)=>qeE n x.1 x.2.1 x.2.2.1 x.2.2.2) n.2.2.2.1.length (fun i=>((i:Int),A,B,(n.2.2.2.1.map (·.1)).take i)) (e:=(A,B,n.2.2.2.1.map (·.1))) (fun i hi=>by
  unfold qeE;simp only[dec_t (show(i:Int)<(n.2.2.2.1.length:Int) by omega),zb,gd_t (inB_t hi),z8]
  rw[gd_t (qaj (by rw[zk]; omega)),w1 hi (by omega),qdu ([]:List UInt8) (by simpa using hi),qgR (·.1) n.2.2.2.1 i sta0 [] hi]) (by
  unfold qeE;simp only[dec_f (show ¬(n.2.2.2.1.length:Int)<(n.2.2.2.1.length:Int) by omega),za]
  rw[zr (by simp)])
 rw[show((((0:Nat):Int),A,B,(n.2.2.2.1.map (·.1)).take 0):Int×List (List UInt8)×List (List UInt8)×List (List UInt8))=(0,A,B,[]) from rfl] at k3
 rw[k3]; rfl
theorem qwn:@qna=@qb3:=rfl
theorem sidx(s:List Str)(v:Str)(hl:s.length<=1000000):qaW s v=some (if s.findIdx (fun x=>decide (v=x))<s.length then((s.findIdx (fun x=>decide (v=x)):Nat):Int) else -1):=by
 unfold qaW;have h:iter (fun x=>qaI s v x) 0=some (if s.findIdx (fun x=>decide (v=x))<s.length then .inr ((s.findIdx (fun x=>decide (v=x)):Nat):Int) else .inl ()):=by
  refine qfE (step:=fun y=>qaI s v y) (ε:=Unit⊕Int) s [] (fun x=>decide (v=x)) (fin:=.inl ()) (fun i=>.inr (i:Int)) (fun i hi hq=>?_) (fun i hi hq=>?_) ?_
  ·unfold qaI;rw[dec_t (show(i:Int)<(s.length:Int) by omega),zb,gd_t (inB_t hi),z8,hq,za,w1 hi (by omega)]
  ·unfold qaI;rw[dec_t (show(i:Int)<(s.length:Int) by omega),zb,gd_t (inB_t hi),z8,hq,zb]
  ·unfold qaI;rw[dec_f (by omega)]; rfl
 rw[h,z7];by_cases hf:s.findIdx (fun x=>decide (v=x))<s.length
 ·rw[if_pos hf,if_pos hf]; rfl
 ·rw[if_neg hf,if_neg hf]; rfl
theorem qxj{A:Type}(l:List A)(d:A)(p:A->Bool)(i:Nat)(hi:i<l.length)(hp:p (l.getD i d)=true):
  decide ((if l.findIdx p<l.length then((l.findIdx p:Nat):Int) else -1)<(i:Int))=(List.range i).any fun k=>p (l.getD k d):=by
 have h1:l.findIdx p<l.length:=zF2.2 ⟨_,qaU hi,hp⟩;rw[if_pos h1,<-qye l d p i (by omega)]
 rw[zZ,zA,zA]; omega
abbrev nm4(a b c d:List Str):List (List Str):=[a,b,c,d]
theorem range4{q:List Str->Bool}(a b c d:List Str):(List.range 4).all (fun i=>q ((nm4 a b c d).getD i []))=(nm4 a b c d).all q:=qrF (nm4 a b c d) [] q
theorem range4n{q:List Str->Bool}(a b c d:List Str):(List.range 4).all (fun i=>!q ((nm4 a b c d).getD i []))=!(nm4 a b c d).any q:=by
 rw[range4 (q:=fun l=>!q l)]; simp[zc1]
theorem len4{a b c d:List Str}{m:Nat}(ha:a.length<=m)(hb:b.length<=m)(hc:c.length<=m)(hd:d.length<=m)(i:Nat):((nm4 a b c d).getD i []).length<=m:=by
 rcases i with _ | _ | _ | _ | i
 ·exact ha
 ·exact hb
 ·exact hc
 ·exact hd
 ·show([]:List Str).length<=m; simp
noncomputable def qzJ(l:List Str)(x:Int):Option (Int⊕(Unit⊕Bool)):=
 bif decide (x<(l.length:Int)) then(gd (inB x l.length)<|(qaW l (l.getD x.toNat [])).bind fun r2=>bif decide (r2<x) then(some (.inr (.inr true))) else(some (.inl (wi64 (x+1))))) else(some (.inr (.inl ())))
section
variable {a b c d:List Str} (ha:a.length<=100) (hb:b.length<=100) (hc:c.length<=100) (hd:d.length<=100)
include ha hb hc hd
theorem qBm:iter (fun x:Int=>qeO (a,b,c,d) x) 0=some (bif (nm4 a b c d).all (fun l=>l.all nameB) then .inl () else .inr 3):=by
 have:=qbn (step:=fun x:Int=>qeO (a,b,c,d) x) 4 (fun i=>(i:Int)) (fun i=>((nm4 a b c d).getD i []).all nameB) (fin:=.inl ()) (bad:=.inr 3) (fun i hi _ hq=>?_) (fun i hi _ hq=>?_) (fun _=>?_)
 ·rw[range4 (q:=fun l=>l.all nameB)] at this; exact this
 all_goals unfold qeO
 ·rw[dec_t (show(i:Int)<4 by omega),zb,gd_t (inB_t hi),z8]
  show(qaA ((nm4 a b c d).getD i []) _).bind _=_;rw[qjj _ (fun s=>!nameB s) _ (fun x _=>by show(qcS x).bind _=_; unfold qcS; rw[quZ]; rfl) (zn1 (len4 ha hb hc hd i) (by omega)),z7]
  rw[zc1] at hq;simp only[zu,Bool.not_eq_eq_eq_not,ze] at hq;rw[hq,za,w1 hi (by omega)]
 ·rw[dec_t (show(i:Int)<4 by omega),zb,gd_t (inB_t hi),z8]
  show(qaA ((nm4 a b c d).getD i []) _).bind _=_;rw[qjj _ (fun s=>!nameB s) _ (fun x _=>by show(qcS x).bind _=_; unfold qcS; rw[quZ]; rfl) (zn1 (len4 ha hb hc hd i) (by omega)),z7]
  rw[zc1] at hq;simp only[zu,Bool.not_eq_eq_eq_not,zl1] at hq;rw[hq,zb]
 ·rw[dec_f (by omega)]; rfl
theorem qD6:iter (fun x:Int=>qeG (a,b,c,d) x) 0=some (bif (nm4 a b c d).any twL then .inr true else .inl ()):=by
 have hin:∀i:Nat,i<4->iter (fun x=>qeF (a,b,c,d) (i:Int) x) 0=some (bif twL ((nm4 a b c d).getD i []) then .inr true else .inl ()):=by
  intro i hi;have hl:=len4 ha hb hc hd i;have e:∀x:Int,qeF (a,b,c,d) (i:Int) x=qzJ ((nm4 a b c d).getD i []) x:=by
   intro x; unfold qeF; rw[z8]; rfl
  simp only[e];generalize (nm4 a b c d).getD i []=l at hl ⊢;have hidx:∀k,k<l.length->qaW l (l.getD k [])=some (if l.findIdx (fun x=>decide (l.getD k []=x))<l.length then((l.findIdx (fun x=>decide (l.getD k []=x)):Nat):Int) else -1):=fun k _=>sidx l _ (by omega)
  have:=scanN (ε:=Unit⊕Bool) (step:=fun x=>qzJ l x) l.length (fun i=>(List.range i).any fun k=>decide (l.getD i []=l.getD k [])) (fin:=.inl ()) (bad:=.inr true) (fun k hk hq=>?_) (fun k hk hq=>?_) ?_
  ·exact this
  all_goals unfold qzJ
  ·rw[dec_t (show(k:Int)<(l.length:Int) by omega),zb,gd_t (inB_t hk),z8,hidx k hk,z7,qxj l [] _ k hk (by simp),hq,za,w1 hk (by omega)]
  ·rw[dec_t (show(k:Int)<(l.length:Int) by omega),zb,gd_t (inB_t hk),z8,hidx k hk,z7,qxj l [] _ k hk (by simp),hq,zb]
  ·rw[dec_f (by omega)]; rfl
 have:=qbn (step:=fun x:Int=>qeG (a,b,c,d) x) 4 (fun i=>(i:Int)) (fun i=>!twL ((nm4 a b c d).getD i [])) (fin:=.inl ()) (bad:=.inr true) (fun i hi _ hq=>?_) (fun i hi _ hq=>?_) (fun _=>?_)
 ·rw[range4n] at this;refine this.trans ?_
  cases(nm4 a b c d).any twL <;> rfl
 all_goals unfold qeG
 ·rw[dec_t (show(i:Int)<4 by omega),zb,gd_t (inB_t hi),hin i hi,z7]
  simp only[zu] at hq;rw[hq,w1 hi (by omega)]; rfl
 ·rw[dec_t (show(i:Int)<4 by omega),zb,gd_t (inB_t hi),hin i hi,z7]
  simp only[Bool.not_eq_false'] at hq;rw[hq]; rfl
 ·rw[dec_f (by omega)]; rfl
end
theorem qD7(n:Net)(hs:n.2.2.2.1.length<=100):iter (fun x=>qeH n x) 0=some (bif twS n.2.2.2.1 then .inr true else .inl ()):=by
 generalize hl:n.2.2.2.1=l at hs;have hidx:∀k,k<l.length->∀f:Stat×Unit->Option Bool,(∀x,f (x,())=some (decide (x.2.1=(l.getD k sta0).2.1)))->qam l f=some (if l.findIdx (fun x=>decide (x.2.1=(l.getD k sta0).2.1))<l.length then((l.findIdx (fun x=>decide (x.2.1=(l.getD k sta0).2.1)):Nat):Int) else -1):=fun k _ f hf=>qdJ l _ f (fun x _=>hf x) (by omega)
 have:=scanN (ε:=Unit⊕Bool) (step:=fun x=>qeH n x) l.length (fun i=>(List.range i).any fun k=>decide ((l.getD k sta0).2.1=(l.getD i sta0).2.1)) (fin:=.inl ()) (bad:=.inr true) (fun k hk hq=>?_) (fun k hk hq=>?_) ?_
 ·exact this
 all_goals unfold qeH; simp only[hl]
 ·rw[dec_t (show(k:Int)<(l.length:Int) by omega),zb,gd_t (inB_t hk),z8,hidx k hk _ (fun x=>rfl),z7,qxj l sta0 _ k hk (by simp),hq,za,w1 hk (by omega)]
 ·rw[dec_t (show(k:Int)<(l.length:Int) by omega),zb,gd_t (inB_t hk),z8,hidx k hk _ (fun x=>rfl),z7,qxj l sta0 _ k hk (by simp),hq,zb]
 ·rw[dec_f (by omega)]; rfl
theorem qBn{n:Net}(h:Small n):qfl n=some (twB n):=by
 obtain⟨h1,h2,h3,h4,h5,h6⟩:=h;unfold qfl;show(qb3 n).bind _=_;rw[qtQ (by omega) (by omega) (by omega),z7]
 rw[qD6 (by omega) (by simp; omega) (by simp; omega) (by simp; omega),z7]
 unfold twB;show Sum.elim _ _ (bif (nmsOf n).any twL then _ else _)=_;cases(nmsOf n).any twL with
 | true=>rfl
 | false=>
  simp only[za,z51,zq2];rw[qD7 n (by omega),z7]
  cases twS n.2.2.2.1 <;> rfl
end Go.Proofs.YtfdgemafaphpaaaGreat
namespace Go.Proofs.YtfdgemafaphpaaaGreat
open Go Go.Sq
set_option linter.unusedVariables false
theorem qBo{n:Net}(h:Small n):qfn n=some (knB n):=by
 obtain⟨h1,h2,h3,h4,h5,h6⟩:=h;unfold qfn;have a1:∀i,(((n.2.1.take i).flatMap fun s=>[s.2.1,s.2.2.1]):List Int).length<=2*i:=by
  intro i;rw[List.length_flatMap];have:∀l:List Seg,(l.map fun s=>([s.2.1,s.2.2.1]:List Int).length).sum=2*l.length:=by
   intro l; induction l with
   | nil=>rfl
   | cons x l ih=>rw[z41,List.sum_cons,ih]; show 2+2*l.length=2*(l.length+1); omega
  rw[this,zk]; omega
 have k1:=qaG (step:=fun x:Int×List Int=>qeI n x.1 x.2) n.2.1.length (fun i=>((i:Int),(n.2.1.take i).flatMap fun s=>[s.2.1,s.2.2.1])) (e:=n.2.1.flatMap fun s=>[s.2.1,s.2.2.1]) (fun i hi=>by
  unfold qeI;have:=a1 i;simp only[dec_t (show(i:Int)<(n.2.1.length:Int) by omega),zb,gd_t (inB_t hi),z8]
  rw[gd_t (qaj (by omega)),w1 hi (by omega),qdu sg0 hi,List.flatMap_append]; simp) (by
  unfold qeI;simp only[dec_f (show ¬(n.2.1.length:Int)<(n.2.1.length:Int) by omega),za]
  rw[zr (by simp)])
 rw[show((((0:Nat):Int),(n.2.1.take 0).flatMap fun s=>[s.2.1,s.2.2.1]):Int×List Int)=(0,[]) from rfl] at k1
 rw[k1,z7];have a2:=a1 n.2.1.length;rw[zr (zM _)] at a2;generalize hA:(n.2.1.flatMap fun s=>[s.2.1,s.2.2.1])=A at a2
 have k2:=qaG (step:=fun x:Int×List Int=>qeJ n x.1 x.2) n.2.2.1.length (fun i=>((i:Int),A++(n.2.2.1.map (·.2.1)).take i)) (e:=A++n.2.2.1.map (·.2.1)) (fun i hi=>by
  unfold qeJ;simp only[dec_t (show(i:Int)<(n.2.2.1.length:Int) by omega),zb,gd_t (inB_t hi),z8]
  rw[gd_t (qaj (by simp; omega)),w1 hi (by omega),qdu (0:Int) (by simpa using hi),qgR (·.2.1) n.2.2.1 i po0 0 hi,zz]) (by
  unfold qeJ;simp only[dec_f (show ¬(n.2.2.1.length:Int)<(n.2.2.1.length:Int) by omega),za]
  rw[zr (by simp)])
 rw[show((((0:Nat):Int),A++(n.2.2.1.map (·.2.1)).take 0):Int×List Int)=(0,A) by simp] at k2
 rw[k2,z7];have a3:(A++n.2.2.1.map (·.2.1)).length<=200:=by simp; omega
 generalize hB:A++n.2.2.1.map (·.2.1)=B at a3;have k3:=qaG (step:=fun x:Int×List Int=>qeK n x.1 x.2) n.2.2.2.1.length (fun i=>((i:Int),B++(n.2.2.2.1.map (·.2.1)).take i)) (e:=B++n.2.2.2.1.map (·.2.1)) (fun i hi=>by
  unfold qeK;simp only[dec_t (show(i:Int)<(n.2.2.2.1.length:Int) by omega),zb,gd_t (inB_t hi),z8]
  rw[gd_t (qaj (by simp; omega)),w1 hi (by omega),qdu (0:Int) (by simpa using hi),qgR (·.2.1) n.2.2.2.1 i sta0 0 hi,zz]) (by
  unfold qeK;simp only[dec_f (show ¬(n.2.2.2.1.length:Int)<(n.2.2.2.1.length:Int) by omega),za]
  rw[zr (by simp)])
 rw[show((((0:Nat):Int),B++(n.2.2.2.1.map (·.2.1)).take 0):Int×List Int)=(0,B) by simp] at k3
 rw[k3,z7];rw[qnj _ (fun k=>!kn n k) _ (fun x _=>by
  show(qfm x n).bind _=_;unfold qfm kn;have e1:decide (x<0)=!decide (0<=x):=by rw[zZ]; simp
  have e2:decide ((n.1.length:Int)<=x)=!decide (x<(n.1.length:Int)):=by rw[zZ]; simp
  rw[e1,e2];cases decide (0<=x) <;> cases decide (x<(n.1.length:Int)) <;> rfl) (by simp; omega),z7]
 congr 1;subst hB hA;unfold knB;rw[zc1,zc1,zc1];rw[List.any_append,List.any_append,List.any_flatMap,List.any_map,List.any_map];simp[Function.comp_def,Bool.and_assoc]
theorem qC6{s:Seg}(h1:2<=s.2.2.2.2.2.2.length)(h2:s.2.2.2.2.2.2.length<=8):qgy s=some (pipeB s):=by
 unfold qgy pipeB;have hl:iter (fun x=>qfp s x) 0=some (bif (List.range s.2.2.2.2.2.2.length).all (ptB s.2.2.2.2.2.2) then .inl () else .inr false):=by
  have:=qbn (step:=fun x=>qfp s x) s.2.2.2.2.2.2.length (fun i=>(i:Int)) (ptB s.2.2.2.2.2.2) (fin:=.inl ()) (bad:=.inr false) (fun i hi _ hq=>?_) (fun i hi _ hq=>?_) (fun _=>?_)
  ·exact this
  all_goals unfold qfp
  ·rw[dec_t (show(i:Int)<(s.2.2.2.2.2.2.length:Int) by omega),zb,gd_t (inB_t hi),qjk,z7,qjk,z7,z8]
   unfold ptB at hq;simp only[z9] at hq;rw[hq.1,hq.2.1];simp only[ze,za];rcases zM1 i with rfl | hp
   ·rfl
   ·rw[dec_t (show(0:Int)<(i:Int) by omega),zb,show wi64 ((i:Int)-1)=((i-1:Nat):Int) by rw[wi (by omega)]; omega,gd_t (inB_t (show i-1<_ by omega)),z8,z7]
    have h3:=hq.2.2;simp only[zo1,zo] at h3;have h3:=h3.resolve_left (fun e=>by have:=zc e; omega)
    rw[dec_f (Int.not_le.2 h3),za,w1 hi (by omega)]
  ·rw[dec_t (show(i:Int)<(s.2.2.2.2.2.2.length:Int) by omega),zb,gd_t (inB_t hi),qjk,z7,qjk,z7,z8]
   unfold ptB at hq;cases e1:rg (-500) 5000 (s.2.2.2.2.2.2.getD i pt0).2.1 with
   | false=>rfl
   | true=>
    cases e2:rg 0 100000000 (s.2.2.2.2.2.2.getD i pt0).2.2 with
    | false=>rfl
    | true=>
     rw[e1,e2] at hq;simp only[zF,zs2,z02] at hq;have hp:i≠0:=fun e=>by rw[e] at hq; cases hq.1
     simp only[ze,za];rw[dec_t (show(0:Int)<(i:Int) by omega),zb,show wi64 ((i:Int)-1)=((i-1:Nat):Int) by rw[wi (by omega)]; omega,gd_t (inB_t (show i-1<_ by omega)),z8,z7,dec_t (Int.not_lt.1 hq.2)]
     rfl
  ·rw[dec_f (by omega)]; rfl
 rw[hl,qjk,qjk,qjk];simp only[z7];cases decide (s.2.1=s.2.2.1) with
 | true=>rfl
 | false=>
 cases rg 1 1000000 s.2.2.2.1 with
 | false=>rfl
 | true=>
 cases rg 0 1000 s.2.2.2.2.1 with
 | false=>rfl
 | true=>
 cases rg 0 100000 s.2.2.2.2.2.1 with
 | false=>rfl
 | true=>
 cases(List.range s.2.2.2.2.2.2.length).all (ptB s.2.2.2.2.2.2) with
 | false=>rfl
 | true=>
  show(gd (inB 0 s.2.2.2.2.2.2.length) _)=_;rw[gd_t (inB0 (by omega)),show wi64 ((s.2.2.2.2.2.2.length:Int)-1)=((s.2.2.2.2.2.2.length-1:Nat):Int) by rw[wi (by omega)]; omega,gd_t (inB_t (show s.2.2.2.2.2.2.length-1<_ by omega)),z8]
  cases decide ((s.2.2.2.2.2.2.getD 0 (0,0,0)).1=0) <;> rfl
theorem qzK{n:Net}(h:Small n):qel n=some (prB n):=by
 obtain⟨h1,h2,h3,h4,h5,h6⟩:=h;unfold qel prB;rw[qdI n.2.1 (fun s=>!pipeB s) _ (fun x hx=>by show(qeL x).bind _=_; unfold qeL; show((qgy x).bind _).bind _=_; rw[qC6 (h6 x hx).1 (h6 x hx).2]; rfl) (by omega),z7]
 rw[qlG n.2.2.1 (fun p=>!rg 0 100000000 p.2.2) _ (fun x hx=>by show(qeM x).bind _=_; unfold qeM; rw[qjk]; rfl) (by omega),z7]
 rw[qhT n.2.2.2.1 (fun p=>!stB p) _ (fun x hx=>by
  show(qeN x).bind _=_; unfold qeN stB; rw[qjk,qjk,qjk];cases rg 0 100000000 x.2.2.1 <;> cases rg 0 100000 x.2.2.2.1 <;> cases rg 0 100000000 x.2.2.2.2 <;> rfl) (by omega),z7,qjk,qjk]
 rw[zc1,zc1,zc1];cases n.2.1.any (fun s=>!pipeB s) <;> cases n.2.2.1.any (fun p=>!rg 0 100000000 p.2.2) <;> cases n.2.2.2.1.any (fun p=>!stB p) <;> cases rg (-100000) 100000000 n.2.2.2.2.1 <;> rfl
theorem qhU(n:Net):qcy n=some (qcc n):=by
 unfold qcy qcc;show(qej n).bind _=_;rw[qzI,z7];cases hl:limB n with
 | false=>rfl
 | true=>
  have hs:=(qqg n).1 hl;show(qb3 n).bind _=_;rw[qtQ (by have:=hs.sg; omega) (by have:=hs.po; omega) (by have:=hs.st; omega),z7]
  rw[qBm (by have:=hs.no; omega) (by have:=hs.sg; simp; omega) (by have:=hs.po; simp; omega) (by have:=hs.st; simp; omega),z7]
  show Sum.elim _ _ (bif formB n then _ else _)=_;cases formB n with
  | false=>rfl
  | true=>
   show(qfl n).bind _=_;rw[qBn hs,z7];cases twB n with
   | true=>rfl
   | false=>
    show(qfn n).bind _=_;rw[qBo hs,z7];cases knB n with
    | false=>rfl
    | true=>
     show(qel n).bind _=_;rw[qzK hs,z7];cases prB n <;> rfl
end Go.Proofs.YtfdgemafaphpaaaGreat
namespace Go.Proofs.YtfdgemafaphpaaaGreat
open Go Go.Sq
set_option linter.unusedVariables false
theorem scanL{A:Type}{ε:Type}(l:List A)(d:A){step:Int->Option (Int⊕(Unit⊕ε))}(q:A->Bool){bad:ε}
  (h1:∀i,i<l.length->q (l.getD i d)=true->step (i:Int)=some (.inl ((i+1:Nat):Int)))
  (h2:∀i,i<l.length->q (l.getD i d)=false->step (i:Int)=some (.inr (.inr bad))) (h3:step (l.length:Int)=some (.inr (.inl ()))):iter step 0=some (bif l.all q then .inl () else .inr bad):=
 scan l d q h1 h2 h3
theorem qCv(l:List Str)(i:Nat)(hi:i<l.length)(hl:l.length<=1000):iter (fun x=>qf1 l (i:Int) x) 0=some (bif (List.range i).any (fun k=>decide (l.getD i []=l.getD k [])) then .inr true else .inl ()):=by
 have:=scanN (ε:=Unit⊕Bool) (step:=fun x=>qf1 l (i:Int) x) i (fun k=>decide (l.getD i []=l.getD k [])) (fin:=.inl ()) (bad:=.inr true) (fun k hk hq=>?_) (fun k hk hq=>?_) ?_
 ·exact this
 all_goals unfold qf1
 ·rw[dec_t (show(k:Int)<(i:Int) by omega),zb,gd_t (inB_t hi),gd_t (inB_t (show k<l.length by omega)),z8,z8,hq,za,w1 hk (by omega)]
 ·rw[dec_t (show(k:Int)<(i:Int) by omega),zb,gd_t (inB_t hi),gd_t (inB_t (show k<l.length by omega)),z8,z8,hq,zb]
 ·rw[dec_f (by omega)]; rfl
theorem qu1(l:List Str)(hl:l.length<=1000):qjy l=some (twL l):=by
 unfold qjy;have:=scanN (ε:=Unit⊕Bool) (step:=fun x=>qiz l x) l.length (fun i=>(List.range i).any fun k=>decide (l.getD i []=l.getD k [])) (fin:=.inl ()) (bad:=.inr true) (fun k hk hq=>?_) (fun k hk hq=>?_) ?_
 ·rw[this,z7]; unfold twL;cases(List.range l.length).any fun i=>(List.range i).any fun k=>decide (l.getD i []=l.getD k []) <;> rfl
 all_goals unfold qiz
 ·rw[dec_t (show(k:Int)<(l.length:Int) by omega),zb,qCv l k hk hl,z7,hq,w1 hk (by omega)]; rfl
 ·rw[dec_t (show(k:Int)<(l.length:Int) by omega),zb,qCv l k hk hl,z7,hq]; rfl
 ·rw[dec_f (by omega)]; rfl
theorem qsG{s:Seg}(h1:2<=s.2.2.2.2.2.2.length)(h2:s.2.2.2.2.2.2.length<=8):qe3 s=some (pipeB s):=by
 unfold qe3 pipeB;have hl:iter (fun x=>qfh s x) 0=some (bif (List.range s.2.2.2.2.2.2.length).all (ptB s.2.2.2.2.2.2) then .inl () else .inr false):=by
  have:=qbn (step:=fun x=>qfh s x) s.2.2.2.2.2.2.length (fun i=>(i:Int)) (ptB s.2.2.2.2.2.2) (fin:=.inl ()) (bad:=.inr false) (fun i hi _ hq=>?_) (fun i hi _ hq=>?_) (fun _=>?_)
  ·exact this
  all_goals unfold qfh
  ·rw[dec_t (show(i:Int)<(s.2.2.2.2.2.2.length:Int) by omega),zb,gd_t (inB_t hi),z8]
   unfold ptB at hq;simp only[z9] at hq;simp only[qfI,z7];rcases zM1 i with rfl | hp
   ·rw[dec_f (by omega),za]
    have e1:=hq.1;have e2:=hq.2.1;simp only[pt0] at e1 e2;rw[e1,e2]; rfl
   ·have e1:=hq.1;have e2:=hq.2.1;simp only[pt0] at e1 e2;rw[dec_t (show(0:Int)<(i:Int) by omega),zb,show wi64 ((i:Int)-1)=((i-1:Nat):Int) by rw[wi (by omega)]; omega,gd_t (inB_t (show i-1<_ by omega)),z8]
    have h3:=hq.2.2;simp only[zo1,zo] at h3;have h3:=h3.resolve_left (fun e=>by have:=zc e; omega)
    rw[dec_f (Int.not_le.2 h3),za,e1,e2,w1 hi (by omega)]; rfl
  ·rw[dec_t (show(i:Int)<(s.2.2.2.2.2.2.length:Int) by omega),zb,gd_t (inB_t hi),z8]
   unfold ptB at hq;simp only[qfI,z7];simp only[pt0] at hq;rcases zM1 i with rfl | hp
   ·rw[dec_f (by omega),za]
    cases e1:rg (-500) 5000 (s.2.2.2.2.2.2.getD 0 (0,0,0)).2.1 with
    | false=>rfl
    | true=>
     cases e2:rg 0 100000000 (s.2.2.2.2.2.2.getD 0 (0,0,0)).2.2 with
     | false=>rfl
     | true=>rw[e1,e2] at hq; cases hq
   ·rw[dec_t (show(0:Int)<(i:Int) by omega),zb,show wi64 ((i:Int)-1)=((i-1:Nat):Int) by rw[wi (by omega)]; omega,gd_t (inB_t (show i-1<_ by omega)),z8]
    cases hd:decide ((s.2.2.2.2.2.2.getD i (0,0,0)).1<=(s.2.2.2.2.2.2.getD (i-1) (0,0,0)).1) with
    | true=>rfl
    | false=>
     have hd:=zj1 hd;rw[show decide ((s.2.2.2.2.2.2.getD (i-1) (0,0,0)).1<(s.2.2.2.2.2.2.getD i (0,0,0)).1)=true from dec_t (by omega),Bool.or_true] at hq
     cases e1:rg (-500) 5000 (s.2.2.2.2.2.2.getD i (0,0,0)).2.1 with
     | false=>rfl
     | true=>
      cases e2:rg 0 100000000 (s.2.2.2.2.2.2.getD i (0,0,0)).2.2 with
      | false=>rfl
      | true=>rw[e1,e2] at hq; cases hq
  ·rw[dec_f (by omega)]; rfl
 rw[hl];simp only[qfI,z7];rw[show wi64 ((s.2.2.2.2.2.2.length:Int)-1)=((s.2.2.2.2.2.2.length-1:Nat):Int) by rw[wi (by omega)]; omega,gd_t (inB0 (show 0<s.2.2.2.2.2.2.length by omega)),gd_t (inB_t (show s.2.2.2.2.2.2.length-1<s.2.2.2.2.2.2.length by omega)),z8]
 cases decide (s.2.1=s.2.2.1) <;> cases rg 1 1000000 s.2.2.2.1 <;> cases rg 0 1000 s.2.2.2.2.1 <;> cases rg 0 100000 s.2.2.2.2.2.1 <;> cases decide ((s.2.2.2.2.2.2.getD 0 (0,0,0)).1=0) <;> cases decide ((s.2.2.2.2.2.2.getD (s.2.2.2.2.2.2.length-1) (0,0,0)).1=s.2.2.2.1) <;> cases(List.range s.2.2.2.2.2.2.length).all (ptB s.2.2.2.2.2.2) <;> rfl
section
variable {a b c d:List Str} (ha:a.length<=100) (hb:b.length<=100) (hc:c.length<=100) (hd:d.length<=100)
include ha hb hc hd
theorem qBp:iter (fun x3=>qf2 x3.1 x3.2.1 x3.2.2.1 x3.2.2.2.1 x3.2.2.2.2) (a,b,c,d,(0:Int))=some (bif (nm4 a b c d).all (fun l=>l.all nameB) then .inl () else .inr 3):=by
 have hin:∀i:Nat,i<4->iter (fun x2=>qdh a b c d (i:Int) x2.1 x2.2.1 x2.2.2.1 x2.2.2.2.1 x2.2.2.2.2) (a,b,c,d,(0:Int))=some (bif ((nm4 a b c d).getD i []).all nameB then .inl (a,b,c,d) else .inr 3):=by
  intro i hi;have hl:=len4 ha hb hc hd i;have e:∀x:Int,qdh a b c d (i:Int) a b c d x=qdh ((nm4 a b c d).getD i []) [] [] [] 0 a b c d x:=by
   intro x; unfold qdh; rw[z8]; rfl
  have:=qbn (ε:=(List Str×List Str×List Str×List Str)⊕Int) (step:=fun x2:List Str×List Str×List Str×List Str×Int=>qdh a b c d (i:Int) x2.1 x2.2.1 x2.2.2.1 x2.2.2.2.1 x2.2.2.2.2) ((nm4 a b c d).getD i []).length (fun k=>(a,b,c,d,(k:Int))) (fun k=>nameB (((nm4 a b c d).getD i []).getD k [])) (fin:=.inl (a,b,c,d)) (bad:=.inr 3) (fun k hk _ hq=>?_) (fun k hk _ hq=>?_) (fun _=>?_)
  ·rw[qrF] at this; exact this
  all_goals simp only[e]; generalize (nm4 a b c d).getD i []=l at*
  ·show(bif decide ((k:Int)<(l.length:Int)) then(gd (inB (k:Int) l.length)<|(qct (l.getD (k:Int).toNat [])).bind fun r4=>bif !r4 then _ else _) else _)=_
   rw[dec_t (show(k:Int)<(l.length:Int) by omega),zb,gd_t (inB_t hk),z8,qu0,z7,hq,w1 hk (by omega)]; rfl
  ·show(bif decide ((k:Int)<(l.length:Int)) then(gd (inB (k:Int) l.length)<|(qct (l.getD (k:Int).toNat [])).bind fun r4=>bif !r4 then _ else _) else _)=_
   rw[dec_t (show(k:Int)<(l.length:Int) by omega),zb,gd_t (inB_t hk),z8,qu0,z7,hq]; rfl
  ·show(bif decide ((l.length:Int)<(l.length:Int)) then _ else _)=_;rw[dec_f (by omega)]; rfl
 have:=qbn (ε:=Unit⊕Int) (step:=fun x3:List Str×List Str×List Str×List Str×Int=>qf2 x3.1 x3.2.1 x3.2.2.1 x3.2.2.2.1 x3.2.2.2.2) 4 (fun i=>(a,b,c,d,(i:Int))) (fun i=>((nm4 a b c d).getD i []).all nameB) (fin:=.inl ()) (bad:=.inr 3) (fun i hi _ hq=>?_) (fun i hi _ hq=>?_) (fun _=>?_)
 ·rw[range4 (q:=fun l=>l.all nameB)] at this; exact this
 all_goals unfold qf2
 ·simp only;rw[dec_t (show(i:Int)<4 by omega),zb,gd_t (inB_t hi),hin i hi,z7,hq]
  simp only[zb,z51];rw[w1 hi (by omega)]
 ·simp only;rw[dec_t (show(i:Int)<4 by omega),zb,gd_t (inB_t hi),hin i hi,z7,hq]; rfl
 ·simp only;rw[dec_f (by omega)]; rfl
theorem qC7:iter (fun x3=>qf3 x3.1 x3.2.1 x3.2.2.1 x3.2.2.2.1 x3.2.2.2.2) (a,b,c,d,(0:Int))=some (bif (nm4 a b c d).any twL then .inr 7 else .inl ()):=by
 have:=qbn (ε:=Unit⊕Int) (step:=fun x3:List Str×List Str×List Str×List Str×Int=>qf3 x3.1 x3.2.1 x3.2.2.1 x3.2.2.2.1 x3.2.2.2.2) 4 (fun i=>(a,b,c,d,(i:Int))) (fun i=>!twL ((nm4 a b c d).getD i [])) (fin:=.inl ()) (bad:=.inr 7) (fun i hi _ hq=>?_) (fun i hi _ hq=>?_) (fun _=>?_)
 ·rw[range4n] at this;refine this.trans ?_
  cases(nm4 a b c d).any twL <;> rfl
 all_goals unfold qf3; simp only
 ·rw[dec_t (show(i:Int)<4 by omega),zb,gd_t (inB_t hi),z8]
  have:=len4 ha hb hc hd i;rw[qu1 ((nm4 a b c d).getD i []) (by omega),z7]
  simp only[zu] at hq;rw[hq,w1 hi (by omega)]; rfl
 ·rw[dec_t (show(i:Int)<4 by omega),zb,gd_t (inB_t hi),z8]
  have:=len4 ha hb hc hd i;rw[qu1 ((nm4 a b c d).getD i []) (by omega),z7]
  simp only[Bool.not_eq_false'] at hq;rw[hq]; rfl
 ·rw[dec_f (by omega)]; rfl
end
theorem qC8(n:Net)(hs:n.2.2.2.1.length<=100):iter (fun x=>qf5 n x) 0=some (bif twS n.2.2.2.1 then .inr 7 else .inl ()):=by
 have hin:∀i:Nat,i<n.2.2.2.1.length->iter (fun x=>qf4 n (i:Int) x) 0=some (bif (List.range i).any (fun k=>decide ((n.2.2.2.1.getD k sta0).2.1=(n.2.2.2.1.getD i sta0).2.1)) then .inr 7 else .inl ()):=by
  intro i hi;have:=scanN (ε:=Unit⊕Int) (step:=fun x=>qf4 n (i:Int) x) i (fun k=>decide ((n.2.2.2.1.getD k sta0).2.1=(n.2.2.2.1.getD i sta0).2.1)) (fin:=.inl ()) (bad:=.inr 7) (fun k hk hq=>?_) (fun k hk hq=>?_) ?_
  ·exact this
  all_goals unfold qf4
  ·rw[dec_t (show(k:Int)<(i:Int) by omega),zb,gd_t (inB_t hi),gd_t (inB_t (show k<n.2.2.2.1.length by omega)),z8,z8,dec_f (fun e=>zj1 hq e.symm),za,w1 hk (by omega)]
  ·rw[dec_t (show(k:Int)<(i:Int) by omega),zb,gd_t (inB_t hi),gd_t (inB_t (show k<n.2.2.2.1.length by omega)),z8,z8,dec_t (zm hq).symm,zb]
  ·rw[dec_f (by omega)]; rfl
 have:=scanN (ε:=Unit⊕Int) (step:=fun x=>qf5 n x) n.2.2.2.1.length (fun i=>(List.range i).any fun k=>decide ((n.2.2.2.1.getD k sta0).2.1=(n.2.2.2.1.getD i sta0).2.1)) (fin:=.inl ()) (bad:=.inr 7) (fun k hk hq=>?_) (fun k hk hq=>?_) ?_
 ·exact this
 all_goals unfold qf5
 ·rw[dec_t (show(k:Int)<(n.2.2.2.1.length:Int) by omega),zb,hin k hk,z7,hq,w1 hk (by omega)]; rfl
 ·rw[dec_t (show(k:Int)<(n.2.2.2.1.length:Int) by omega),zb,hin k hk,z7,hq]; rfl
 ·rw[dec_f (by omega)]; rfl
theorem rgk(n:Net)(h:1<=n.1.length)(h2:n.1.length<=24)(k:Int):rg 0 (wi64 ((n.1.length:Int)-1)) k=kn n k:=by
 unfold rg kn;rw[wi (by omega)]
 congr 1;rw[zZ,zA,zA]; omega
theorem qka(n:Net):qeV n=some (qcc n):=by
 unfold qeV qcc;simp only[qfI,z7];have e0:rg 1 24 (n.1.length:Int)=(Nat.ble 1 n.1.length&&Nat.ble n.1.length 24):=by
  unfold rg; rw[zZ]; simp only[z9,zo,zC1]; omega
 have e3:decide (32<(n.2.1.length:Int))=!Nat.ble n.2.1.length 32:=by rw[<-bltn]; exact dlt (a:=32)
 have e4:decide (24<(n.2.2.1.length:Int))=!Nat.ble n.2.2.1.length 24:=by rw[<-bltn]; exact dlt (a:=24)
 have e5:decide (12<(n.2.2.2.1.length:Int))=!Nat.ble n.2.2.2.1.length 12:=by rw[<-bltn]; exact dlt (a:=12)
 rw[e0,e3,e4,e5];unfold limB;cases h1:Nat.ble 1 n.1.length
 ·rfl
 cases h2:Nat.ble n.1.length 24
 ·rfl
 cases h3:Nat.ble n.2.1.length 32
 ·rfl
 cases h4:Nat.ble n.2.2.1.length 24
 ·rfl
 cases h5:Nat.ble n.2.2.2.1.length 12
 ·rfl
 have g1:=zN h1;have g2:=zN h2;have g3:=zN h3;have g4:=zN h4;have g5:=zN h5;simp only[ze,za,z7,zN2,zF];have k0:=scanL (ε:=Int) (step:=fun x=>qd7 n x) n.2.1 sg0 (fun s=>Nat.ble 2 s.2.2.2.2.2.2.length&&Nat.ble s.2.2.2.2.2.2.length 8) (bad:=4) (fun i hi hq=>by
  unfold qd7;rw[dec_t (show(i:Int)<(n.2.1.length:Int) by omega),zb,gd_t (inB_t hi),qfI,z7,z8]
  simp only[z9,zC1] at hq;rw[show rg 2 8 ((n.2.1.getD i sg0).2.2.2.2.2.2.length:Int)=true by unfold rg; rw[dec_t (by omega),dec_t (by omega)]; rfl,w1 hi (by omega)]; rfl) (fun i hi hq=>by
  unfold qd7;rw[dec_t (show(i:Int)<(n.2.1.length:Int) by omega),zb,gd_t (inB_t hi),qfI,z7,z8]
  rw[show rg 2 8 ((n.2.1.getD i sg0).2.2.2.2.2.2.length:Int)=false by
   rw[<-hq]; unfold rg; rw[zZ]; simp only[z9,zo,zC1]; omega]; rfl) (by
  unfold qd7;rw[dec_f (by omega)]; rfl)
 rw[k0,z7];cases hp:n.2.1.all (fun s=>Nat.ble 2 s.2.2.2.2.2.2.length&&Nat.ble s.2.2.2.2.2.2.length 8) with
 | false=>rfl
 | true=>
 have hs:Small n:=(qqg n).1 (by unfold limB; rw[h1,h2,h3,h4,h5,hp]; rfl)
 simp only[zb,z51];rw[qwn];show(qb3 n).bind _=_;rw[qtQ (by omega) (by omega) (by omega),z7]
 simp only;rw[qBp (by omega) (by simp; omega) (by simp; omega) (by simp; omega),z7]
 show Sum.elim _ _ (bif formB n then _ else _)=_;cases formB n with
 | false=>rfl
 | true=>
 simp only[zb,z51];rw[qC7 (by omega) (by simp; omega) (by simp; omega) (by simp; omega),z7]
 unfold twB;show Sum.elim _ _ (bif (nmsOf n).any twL then _ else _)=_;cases(nmsOf n).any twL with
 | true=>rfl
 | false=>
 simp only[za,z51,zq2];rw[qC8 n (by omega),z7]
 cases twS n.2.2.2.1 with
 | true=>rfl
 | false=>
 simp only[za,z51];have k6:=scanL (ε:=Int) (step:=fun x=>qd8 n x) n.2.1 sg0 (fun s=>kn n s.2.1&&kn n s.2.2.1) (bad:=8) (fun i hi hq=>by
  unfold qd8;rw[dec_t (show(i:Int)<(n.2.1.length:Int) by omega),zb,gd_t (inB_t hi),qfI,z7,qfI,z7,z8,rgk n g1 g2,rgk n g1 g2]
  simp only[z9] at hq;rw[hq.1,hq.2,w1 hi (by omega)]; rfl) (fun i hi hq=>by
  unfold qd8;rw[dec_t (show(i:Int)<(n.2.1.length:Int) by omega),zb,gd_t (inB_t hi),qfI,z7,qfI,z7,z8,rgk n g1 g2,rgk n g1 g2]
  revert hq
  cases kn n (n.2.1.getD i sg0).2.1 <;> cases kn n (n.2.1.getD i sg0).2.2.1 <;> intro hq <;> first | rfl | cases hq) (by
  unfold qd8;rw[dec_f (by omega)]; rfl)
 rw[k6,z7];unfold knB;cases n.2.1.all (fun s=>kn n s.2.1&&kn n s.2.2.1) with
 | false=>rfl
 | true=>
 simp only[zb,z51,zF];have k7:=scanL (ε:=Int) (step:=fun x=>qd9 n x) n.2.2.1 po0 (fun s=>kn n s.2.1) (bad:=8) (fun i hi hq=>by
  unfold qd9;rw[dec_t (show(i:Int)<(n.2.2.1.length:Int) by omega),zb,gd_t (inB_t hi),qfI,z7,z8,rgk n g1 g2,hq,w1 hi (by omega)]; rfl) (fun i hi hq=>by
  unfold qd9;rw[dec_t (show(i:Int)<(n.2.2.1.length:Int) by omega),zb,gd_t (inB_t hi),qfI,z7,z8,rgk n g1 g2,hq]; rfl) (by
  unfold qd9;rw[dec_f (by omega)]; rfl)
 rw[k7,z7];cases n.2.2.1.all (fun s=>kn n s.2.1) with
 | false=>rfl
 | true=>
 simp only[zb,z51,zF];have k8:=scanL (ε:=Int) (step:=fun x=>qea n x) n.2.2.2.1 sta0 (fun s=>kn n s.2.1) (bad:=8) (fun i hi hq=>by
  unfold qea;rw[dec_t (show(i:Int)<(n.2.2.2.1.length:Int) by omega),zb,gd_t (inB_t hi),qfI,z7,z8,rgk n g1 g2,hq,w1 hi (by omega)]; rfl) (fun i hi hq=>by
  unfold qea;rw[dec_t (show(i:Int)<(n.2.2.2.1.length:Int) by omega),zb,gd_t (inB_t hi),qfI,z7,z8,rgk n g1 g2,hq]; rfl) (by
  unfold qea;rw[dec_f (by omega)]; rfl)
 rw[k8,z7];cases n.2.2.2.1.all (fun s=>kn n s.2.1) with
 | false=>rfl
 | true=>
 simp only[zb,z51];unfold prB;have k9:=scanL (ε:=Int) (step:=fun x=>qeb n x) n.2.1 sg0 pipeB (bad:=9) (fun i hi hq=>by
  unfold qeb;rw[dec_t (show(i:Int)<(n.2.1.length:Int) by omega),zb,gd_t (inB_t hi),z8]
  have:=hs.pt _ (qaU (d:=sg0) hi);show(qe3 (n.2.1.getD i sg0)).bind _=_;rw[qsG this.1 this.2,z7,hq,w1 hi (by omega)]; rfl) (fun i hi hq=>by
  unfold qeb;rw[dec_t (show(i:Int)<(n.2.1.length:Int) by omega),zb,gd_t (inB_t hi),z8]
  have:=hs.pt _ (qaU (d:=sg0) hi);show(qe3 (n.2.1.getD i sg0)).bind _=_;rw[qsG this.1 this.2,z7,hq]; rfl) (by
  unfold qeb;rw[dec_f (by omega)]; rfl)
 rw[k9,z7];cases n.2.1.all pipeB with
 | false=>rfl
 | true=>
 simp only[zb,z51,zF];have k10:=scanL (ε:=Int) (step:=fun x=>qdv n x) n.2.2.1 po0 (fun p=>rg 0 100000000 p.2.2) (bad:=9) (fun i hi hq=>by
  unfold qdv;rw[dec_t (show(i:Int)<(n.2.2.1.length:Int) by omega),zb,gd_t (inB_t hi),qfI,z7,z8,hq,w1 hi (by omega)]; rfl) (fun i hi hq=>by
  unfold qdv;rw[dec_t (show(i:Int)<(n.2.2.1.length:Int) by omega),zb,gd_t (inB_t hi),qfI,z7,z8,hq]; rfl) (by
  unfold qdv;rw[dec_f (by omega)]; rfl)
 rw[k10,z7];cases n.2.2.1.all (fun p=>rg 0 100000000 p.2.2) with
 | false=>rfl
 | true=>
 simp only[zb,z51,zF];have k11:=scanL (ε:=Int) (step:=fun x=>qdw n x) n.2.2.2.1 sta0 stB (bad:=9) (fun i hi hq=>by
  unfold qdw;unfold stB at hq;simp only[z9,sta0] at hq;simp only[qfI,z7];rw[dec_t (show(i:Int)<(n.2.2.2.1.length:Int) by omega),zb,gd_t (inB_t hi),z8,hq.1,hq.2.1,hq.2.2,w1 hi (by omega)]; rfl) (fun i hi hq=>by
  unfold qdw;unfold stB at hq;simp only[sta0] at hq;simp only[qfI,z7];rw[dec_t (show(i:Int)<(n.2.2.2.1.length:Int) by omega),zb,gd_t (inB_t hi),z8]
  revert hq
  cases rg 0 100000000 (n.2.2.2.1.getD i ([],0,0,0,0)).2.2.1 <;> cases rg 0 100000 (n.2.2.2.1.getD i ([],0,0,0,0)).2.2.2.1 <;> cases rg 0 100000000 (n.2.2.2.1.getD i ([],0,0,0,0)).2.2.2.2 <;> intro hq <;> first | rfl | cases hq) (by
  unfold qdw;rw[dec_f (by omega)]; rfl)
 rw[k11,z7];cases n.2.2.2.1.all stB with
 | false=>rfl
 | true=>
 simp only[zb,z51,zF,z7];cases rg (-100000) 100000000 n.2.2.2.2.1 <;> cases rg 0 100 n.2.2.2.2.2 <;> rfl
end Go.Proofs.YtfdgemafaphpaaaGreat
namespace Go.Proofs.YtfdgemafaphpaaaGreat
open Go Go.Sq
theorem qqh(c:UInt8)(hc:c∈[(110:UInt8),103,113,115,112]){m:Nat}(hm:m<=26):(nms c m).all nameB=true:=by
 have key:∀c∈[(110:UInt8),103,113,115,112],∀i∈List.range 26,nameB (nm c i)=true:=by decide +kernel
 rw[zx];intro x hx;obtain⟨j,hj,rfl⟩:=qC5 hx;exact key c hc j (zO.2 (by omega))
theorem qoF{l:List Str}(h:l.Nodup):twL l=false:=by
 unfold twL;rw[zc2];intro i hi;rw[z32,zc2];intro k hk;have hi:=zO.1 hi;have hk:=zO.1 hk;rw[zo];intro he;rw[zh,zh,zi (by omega),zi (by omega)] at he
 have:=(List.getElem_inj h (h₀:=hi) (h₁:=(by omega:k<l.length))).1 he
 omega
theorem rg_t{lo hi x:Int}(h:lo<=x/\x<=hi):rg lo hi x=true:=by
 unfold rg;rw[zb1 h.1,zb1 h.2]; rfl
theorem qD8{k:Nat}{s:Seg}(h:SegP k s):pipeB s=true:=by
 have a1:=h.pts.l2;unfold pipeB;rw[zo2 h.ne,rg_t h.cap,rg_t h.res,rg_t h.wav];have e1:(s.2.2.2.2.2.2.getD 0 pt0).1=0:=h.pts.fst;have e2:(s.2.2.2.2.2.2.getD (s.2.2.2.2.2.2.length-1) pt0).1=s.2.2.2.1:=h.pts.lst;rw[zb1 e1,zb1 e2];simp only[zl1,z23,zF,zN2];rw[zx];intro i hi;have hi:=zO.1 hi;have hr:=h.pts.rng _ (qaU (d:=pt0) hi);unfold ptB;rw[rg_t ⟨hr.1,hr.2.1⟩,rg_t ⟨hr.2.2.1,hr.2.2.2⟩];simp only[zF];cases i with
 | zero=>rfl
 | succ j=>
  have:=h.pts.inc j hi;have e3:(s.2.2.2.2.2.2.getD (j+1-1) pt0).1<(s.2.2.2.2.2.2.getD (j+1) pt0).1:=this;rw[zb1 e3,Bool.or_true]
theorem chk0{k:Nat}{n:Net}(h:NetP k n):qcc n=0:=by
 have a1:=h.k2; have a2:=h.k6; have a3:=h.segs.len; have a4:=h.ports.len; have a5:=h.stats.len; have a6:=h.some';have e:n.1.length=k:=by rw[h.nodes,qo9]
 have hl:limB n=true:=(qqg n).2 ⟨by omega,by omega,by omega,by omega,by omega,fun s hs=>⟨(h.segs.rng s hs).pts.l2,(h.segs.rng s hs).pts.l8⟩⟩
 have hf:formB n=true:=by
  unfold formB nmsOf;rw[h.nodes,h.segs.nam,h.ports.nam,h.stats.nam];simp only[zF1,List.all_nil];rw[qqh 110 (by decide) (by omega),qqh 103 (by decide) (by omega),qqh 113 (by decide) (by omega),qqh 115 (by decide) (by omega)]; rfl
 have ht:twB n=false:=by
  unfold twB nmsOf;rw[h.nodes,h.segs.nam,h.ports.nam,h.stats.nam];simp only[List.any_cons,List.any_nil];rw[qoF (qoE 110 (by omega)),qoF (qoE 103 (by omega)),qoF (qoE 113 (by omega)),qoF (qoE 115 (by omega))]
  simp only[Bool.or_self,zq2];unfold twS;rw[zc2];intro i hi;rw[z32,zc2];intro q hq;have hi:=zO.1 hi;have hq:=zO.1 hq;rw[zo];intro he;have hd:=h.stats.dif;have e1:∀j (hj:j<n.2.2.2.1.length),(n.2.2.2.1.getD j sta0).2.1=(n.2.2.2.1.map (·.2.1))[j]'(by simpa using hj):=fun j hj=>by
   rw[List.getElem_map,zh,zi hj]; rfl
  rw[e1 q (by omega),e1 i hi] at he
  have:=(List.getElem_inj hd).1 he;omega
 have hk:knB n=true:=by
  unfold knB kn;rw[z9,z9,zx,zx,zx];refine⟨fun s hs=>?_,fun s hs=>?_,fun s hs=>?_⟩
  ·have:=h.segs.rng s hs;have b1:=this.f0; have b2:=this.f1; have b3:=this.t0; have b4:=this.t1;rw[zb1 b1,zb1 b3,zb1 (by omega),zb1 (by omega)]; rfl
  ·have:=h.ports.rng s hs;rw[zb1 this.1,zb1 (by omega)]; rfl
  ·have:=h.stats.rng s hs;rw[zb1 this.1,zb1 (by omega)]; rfl
 have hp:prB n=true:=by
  unfold prB;rw[rg_t h.vap,rg_t h.set,zx.2 fun s hs=>qD8 (h.segs.rng s hs),zx.2 fun s hs=>rg_t (h.ports.rng s hs).2.2,zx.2 fun s hs=>?_]
  ·rfl
  ·have:=h.stats.rng s hs;unfold stB;rw[rg_t this.2.2.1,rg_t this.2.2.2.1,rg_t this.2.2.2.2]; rfl
 unfold qcc;rw[hl,hf,ht,hk,hp]; rfl
end Go.Proofs.YtfdgemafaphpaaaGreat
