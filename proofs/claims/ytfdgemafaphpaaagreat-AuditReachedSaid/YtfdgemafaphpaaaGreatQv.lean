/- Functions, evaluated. No condition. -/
import Derived.Test.YtfdgemafaphpaaaGreatProg
import Derived.Test.YtfdgemafaphpaaaGreatQu
namespace Go.Proofs.YtfdgemafaphpaaaGreat
open Go Go.Sq
open Go.Proofs.Tryz
noncomputable section
def qg7(v:yB0)(r:yB11)(c:Int)(c2:yB4)(c3:List Int)(c4:List Int)(c5:List Bool)(c6:List yB2)(c7:List yB1):Option (Int×Int×yB4×List Int×List Int×List Bool×(List yB2)×List yB1):=
 Option.bind (α:=yB14) (
 bif decide ((r.2.1.length:Int)<5) then(
 some (true,c2,c3,c4,c5,c6,c7))
 else(
 (qfu (r.2.2.1.1,r.2.2.1.2.1,r.2.2.1.2.2.1,r.2.2.1.2.2.2.1,r.2.2.1.2.2.2.2.1,r.2.2.1.2.2.2.2.2.1,r.2.2.1.2.2.2.2.2.2)).bind fun r2=>
 bif !r2 then(
 some (true,c2,c3,c4,c5,c6,c7))
 else(
 some ((!(decide (r.2.2.2.1=[])&&(decide (r.2.2.2.2.1=0)&&decide (r.2.2.2.2.2=0)))),c2,c3,c4,c5,c6,c7)))) fun s=>
 bif s.1 then(
 some (28,c,s.2.1,s.2.2.1,s.2.2.2.1,s.2.2.2.2.1,s.2.2.2.2.2.1,s.2.2.2.2.2.2))
 else(
 gd (inB 0 r.2.1.length)<|
 gd (inB 1 r.2.1.length)<|
 gd (inB 2 r.2.1.length)<|
 gd (inB 3 r.2.1.length)<|
 gd (inB 4 r.2.1.length)<|
 gd (cutG (some (.i64,5)) none r.2.1.length)<|
 (qcz (r.2.1.drop 5)).bind fun r3=>
 (qdk (r.2.1.getD 0 0,r.2.1.getD 1 0,r.2.1.getD 2 0,r.2.1.getD 3 0,r.2.1.getD 4 0,r3)).bind fun r4=>
 bif !r4 then(
 some (28,c,s.2.1,s.2.2.1,s.2.2.2.1,s.2.2.2.2.1,s.2.2.2.2.2.1,s.2.2.2.2.2.2))
 else(
 (qjV s.2.2.2.2.2.1 (r.2.1.getD 0 0)).bind fun r5=>
 bif !r5.2 then(
 (insT 64 r5.1 s.2.2.2.2.2.1 [(r.2.1.getD 0 0,r.2.1.getD 1 0,r.2.1.getD 2 0,r.2.1.getD 3 0,r.2.1.getD 4 0,r3)]).bind fun r6=>
 some (0,c,s.2.1,s.2.2.1,s.2.2.2.1,s.2.2.2.2.1,r6,s.2.2.2.2.2.2))
 else(
 gd (inB r5.1 s.2.2.2.2.2.1.length)<|
 (qfv (s.2.2.2.2.2.1.getD r5.1.toNat (0,0,0,0,0,[])) (r.2.1.getD 0 0,r.2.1.getD 1 0,r.2.1.getD 2 0,r.2.1.getD 3 0,r.2.1.getD 4 0,r3)).bind fun r7=>
 bif !r7 then(
 some (6,c,s.2.1,s.2.2.1,s.2.2.2.1,s.2.2.2.2.1,s.2.2.2.2.2.1,s.2.2.2.2.2.2))
 else(
 gd (inB r5.1 s.2.2.2.2.2.1.length)<|
 some (0,c,s.2.1,s.2.2.1,s.2.2.2.1,s.2.2.2.2.1,s.2.2.2.2.2.1.set r5.1.toNat (r.2.1.getD 0 0,(r.2.1.getD 1 0,(r.2.1.getD 2 0,(r.2.1.getD 3 0,(r.2.1.getD 4 0,r3))))),s.2.2.2.2.2.2)))))
def qkt:Fun:=
 ⟨123,3,1,
 ⟨r19_,v61_,a8_⟩,
 ⟨[(0,ii)],v58_,a31_⟩,
 fun x=>qg7 x.1 x.2.1 x.2.2.1 x.2.2.2.1 x.2.2.2.2.1 x.2.2.2.2.2.1 x.2.2.2.2.2.2.1 x.2.2.2.2.2.2.2.1 x.2.2.2.2.2.2.2.2⟩
theorem qpZ:FO qkt:=fi [78] [qgN,qdz,qfS,qmO,qbA,qik] 93 [] ((nn (mm (mm (.mk [.join [⟨.n,⟨[(1,pt 0 0),(5,pt 96 0),(26,bb)],v76_,a8_⟩⟩]] none .nil .nil) .nil) .nil))) func123 ⟨⟨qkq,qgA,qi7,qsj,qdd,qoh,trivial⟩,trivial⟩
def qao(s:yB4)(f:(Int×Int×Bool×Bool)×Unit->Option Bool)(v:Int):Option (Int⊕(Unit⊕Int)):=
 bif decide (v<(s.length:Int)) then(
 gd (inB v s.length)<|
 (f (s.getD v.toNat (0,0,false,false),())).bind fun r=>
 bif r then(
 some (.inr (.inr v)))
 else(
 some (.inl (wi64 (v+1)))))
 else(
 some (.inr (.inl ())))
def qaS(s:yB4)(f:(Int×Int×Bool×Bool)×Unit->Option Bool):Option (Int):=
 (iter (fun x=>qao s f x) 0).bind fun s2=>
 s2.elim (fun s3=>
 some (-1))
 (fun s4=>
 some s4)
def qbN:Fun:=
 ⟨133,2,1,
 ⟨r71_,[],[]⟩,
 ⟨[(0,ii)],[],[]⟩,
 fun x=>qaS x.1 x.2⟩
theorem qdA:FO qbN:=fi [] [] 19 [] ((nn (mm (nn (mm (.mk [] (some (⟨r34_,[],[]⟩,[⟨.x 0,⟨[],[],[]⟩⟩,⟨.r,⟨[(4,ii)],[],[]⟩⟩])) .nil .nil) .nil)) .nil))) func133 ⟨trivial,trivial⟩
def qav(s:yB4)(f:(Int×Int×Bool×Bool)×Unit->Option Bool):Option (Bool):=
 (qaS s f).bind fun r=>
 some (decide (0<=r))
def qbB:Fun:=
 ⟨75,2,1,
 ⟨r71_,[],[]⟩,
 ⟨[(0,bb)],[],[]⟩,
 fun x=>qav x.1 x.2⟩
theorem qde:FO qbB:=fi [] [qbN] 9 [] .nil func75 ⟨⟨qdA,trivial⟩,trivial⟩
def qgB(v:Int×Int×Bool×Bool):Option (Bool):=
 (qdy (v.1,v.2.1,v.2.2.1,v.2.2.2)).bind fun r=>
 some (!r)
def qlp:Fun:=
 ⟨76,1,1,
 ⟨[(0,dd tT1)],[],[]⟩,
 ⟨[(0,bb)],[],[]⟩,
 fun x=>qgB x⟩
theorem qrt:FO qlp:=fi [] [qdj] 6 [] .nil func76 ⟨⟨qem,trivial⟩,trivial⟩
def qhO(rate:Int)(most:Int):Option (Bool):=
 bif decide (wi64 (0-most)<=rate) then(
 some (decide (rate<=most)))
 else(
 some false)
def qiH:Fun:=
 ⟨134,2,1,
 ⟨r50_,[],[]⟩,
 ⟨[(0,bb)],[],[]⟩,
 fun x=>qhO x.1 x.2⟩
theorem qmP:FO qiH:=fi [] [] 14 [] .nil func134 ⟨trivial,trivial⟩
def qil(rate:Int):Option (Bool):=
 (qhO rate 1000).bind fun r=>
 some (!r)
def qlq:Fun:=
 ⟨135,1,1,
 ⟨[(0,ii)],[],[]⟩,
 ⟨[(0,bb)],[],[]⟩,
 fun x=>qil x⟩
theorem qru:FO qlq:=fi [] [qiH] 6 [] .nil func135 ⟨⟨qmP,trivial⟩,trivial⟩
def qdf(vfrom:Int)(to:Int)(rate:Int)(s:List Int×List Int):Option (List Int×List Int):=
 Option.bind (α:=Int×Int×Int×List Int×List Int) (
 bif decide (rate<0) then(
 some (to,vfrom,wi64 (0-rate),s))
 else(
 some (vfrom,to,rate,s))) fun s2=>
 Option.bind (α:=List Int×List Int) (
 bif decide (0<=s2.1) then(
 gd (inB s2.1 24)<|
 gd (inB s2.1 24)<|
 some (s2.2.2.2.1,s2.2.2.2.2.set s2.1.toNat (wi64 ((s2.2.2.2.2.getD s2.1.toNat 0)+s2.2.2.1))))
 else(
 some s2.2.2.2)) fun s3=>
 bif decide (0<=s2.2.1) then(
 gd (inB s2.2.1 24)<|
 gd (inB s2.2.1 24)<|
 some (s3.1.set s2.2.1.toNat (wi64 ((s3.1.getD s2.2.1.toNat 0)+s2.2.2.1)),s3.2))
 else(
 some s3)
def qhP:Fun:=
 ⟨192,4,0,
 ⟨[(0,.one (.ael 0 48)),(1,ii),(2,ii),(3,ii)],[],a65_⟩,
 ⟨[],[],a65_⟩,
 fun x=>qdf x.1 x.2.1 x.2.2.1 x.2.2.2⟩
theorem qni:FO qhP:=fi [] [] 40 [] ((mm (nn (.mk [.join [⟨.n,⟨[(0,.one (.ael 0 48)),(1,ii),(2,ii),(3,ii)],[],a65_⟩⟩]] none .nil .nil)) (mm (nn (.mk [.join [⟨.n,⟨[(0,.one (.ael 0 48)),(2,kk),(3,kk)],[],a65_⟩⟩]] none .nil .nil)) .nil))) func192 ⟨trivial,trivial⟩
def qdB(n:yB0)(p:yB6)(v:Int)(v2:List Int×List Int)(out:List Int×List Int):Option ((Int×(List Int×List Int)×List Int×List Int)⊕((List Int×List Int)×List Int×List Int)):=
 bif decide (v<(n.2.1.length:Int)) then(
 gd (inB v n.2.1.length)<|
 gd (inB v p.1.length)<|
 (qdf (((n.2.1.getD v.toNat ([],0,0,0,0,0,[])).2).1) ((((n.2.1.getD v.toNat ([],0,0,0,0,0,[])).2).2).1) (p.1.getD v.toNat 0) out).bind fun r=>
 some (.inl (wi64 (v+1),v2,r)))
 else(
 some (.inr (v2,out)))
def qdC(n:yB0)(p:yB6)(v3:Int)(v4:List Int×List Int)(out2:List Int×List Int):Option ((Int×(List Int×List Int)×List Int×List Int)⊕((List Int×List Int)×List Int×List Int)):=
 bif decide (v3<(n.2.2.1.length:Int)) then(
 gd (inB v3 n.2.2.1.length)<|
 gd (inB v3 p.2.1.length)<|
 (qdf (-1) (((n.2.2.1.getD v3.toNat ([],0,0)).2).1) (p.2.1.getD v3.toNat 0) out2).bind fun r2=>
 some (.inl (wi64 (v3+1),v4,r2)))
 else(
 some (.inr (v4,out2)))
def qlr(n:yB0)(p:yB6):Option (List Int×List Int):=
 (iter (fun x=>qdB n p x.1 x.2.1 x.2.2) (0,((List.replicate 24 0),List.replicate 24 0),(List.replicate 24 0),List.replicate 24 0)).bind fun s=>
 (iter (fun x2=>qdC n p x2.1 x2.2.1 x2.2.2) (0,s.1,s.2)).bind fun s2=>
 some s2.2
def qls:Fun:=
 ⟨136,2,1,
 ⟨r51_,[],[]⟩,
 ⟨[(0,dd (.pair (.arr 24 I6) (.arr 24 I6)))],[],[]⟩,
 fun x=>qlr x.1 x.2⟩
theorem qpC:FO qls:=fi [3000004,3000005] [qhP] 47 [] ((nn (nn (mm (nn (mm (.mk [] (some (⟨[(2,pt 48 0),(3,pt 64 0),(4,.one (.ael 80 48)),(5,.one (.ael 96 48)),(11,kk),(12,kk),(13,ii)],v0_,a15_⟩,[⟨.x 0,⟨[(2,pt 48 0),(3,pt 64 0),(4,.one (.ael 80 48)),(5,.one (.ael 96 48))],v0_,a15_⟩⟩])) .nil .nil) .nil)) (mm (nn (mm (.mk [] (some (⟨[(3,pt 64 0),(4,.one (.ael 80 48)),(5,.one (.ael 96 48)),(30,kk),(31,kk),(32,ii)],[(64,38,[.keep,.keep,.keep])],a15_⟩,[⟨.x 2,⟨[(4,.one (.ael 80 48)),(5,.one (.ael 96 48))],[],a15_⟩⟩])) .nil .nil) .nil)) .nil))))) func136 ⟨⟨qni,trivial⟩,trivial⟩
def qoi(s:yB10)(rate:Int):Option (Int×Int):=
 bif decide (rate<0) then(
 some (s.2.2.1,s.2.1))
 else(
 some (s.2.1,s.2.2.1))
def qpD:Fun:=
 ⟨193,2,2,
 ⟨[(0,dd (.pair (.str) tT5)),(1,ii)],[],[]⟩,
 ⟨r50_,[],[]⟩,
 fun x=>qoi x.1 x.2⟩
theorem quV:FO qpD:=fi [] [] 16 [] .nil func193 ⟨trivial,trivial⟩
def qb5(n:yB0)(p:yB6)(k:Int)(v:Int)(out2:List Int)(there2:List Bool):Option ((Int×List Int×List Bool)⊕((List Int×List Bool)⊕(List Int×List Bool))):=
 bif decide (v<(n.2.1.length:Int)) then(
 gd (inB v n.2.1.length)<|
 gd (inB v p.1.length)<|
 (qoi ((n.2.1.getD v.toNat ([],0,0,0,0,0,[])).1,((n.2.1.getD v.toNat ([],0,0,0,0,0,[])).2).1,(((n.2.1.getD v.toNat ([],0,0,0,0,0,[])).2).2).1,((((n.2.1.getD v.toNat ([],0,0,0,0,0,[])).2).2).2).1,(((((n.2.1.getD v.toNat ([],0,0,0,0,0,[])).2).2).2).2).1,((((((n.2.1.getD v.toNat ([],0,0,0,0,0,[])).2).2).2).2).2).1,((((((n.2.1.getD v.toNat ([],0,0,0,0,0,[])).2).2).2).2).2).2) (p.1.getD v.toNat 0)).bind fun r=>
 Option.bind (α:=Bool×List Int×List Bool) (
 gd (inB v p.1.length)<|
 bif !decide (p.1.getD v.toNat 0=0) then(
 bif decide (r.2=k) then(
 gd (inB r.1 there2.length)<|
 some ((!(there2.getD r.1.toNat false)),out2,there2))
 else(
 some (false,out2,there2)))
 else(
 some (false,out2,there2))) fun s=>
 bif s.1 then(
 some (.inr (.inl (s.2.1,s.2.2))))
 else(
 some (.inl (wi64 (v+1),s.2.1,s.2.2))))
 else(
 some (.inr (.inr (out2,there2))))
def qaY(n:yB0)(p:yB6)(k:Int)(out:List Int)(there:List Bool):Option ((Int×List Int×List Bool)⊕(List Int)):=
 bif decide (k<(n.1.length:Int)) then(
 Option.bind (α:=Int×List Int×List Bool) (
 gd (inB k there.length)<|
 bif there.getD k.toNat false then(
 some (k,out,there))
 else(
 (iter (fun x=>qb5 n p k x.1 x.2.1 x.2.2) (0,out,there)).bind fun s2=>
 s2.elim (fun s3=>
 some (k,s3.1,s3.2))
 (fun s4=>
 gd (inB k s4.2.length)<|
 gd (fits (s4.1.length+1) 8)<|
 some ((-1),s4.1++[k],s4.2.set k.toNat true)))) fun s5=>
 some (.inl (wi64 (s5.1+1),s5.2.1,s5.2.2)))
 else(
 some (.inr out))
def ql5(n:yB0)(p:yB6):Option (List Int):=
 gd (makeG 1 (n.1.length:Int))<|
 (iter (fun x2=>qaY n p x2.1 x2.2.1 x2.2.2) (0,[],List.replicate (n.1.length:Int).toNat (false:Bool))).bind fun s6=>
 some s6
def qoj:Fun:=
 ⟨137,2,1,
 ⟨r51_,[],[]⟩,
 ⟨[(0,ow 0)],[],[(0,.arr 3 I6)]⟩,
 fun x=>ql5 x.1 x.2⟩
theorem qtD:FO qoj:=fi [] [qpD] 72 [] ((nn (mm (nn (nn (nn (mm (nn (mm (.mk [] (some (⟨r108_,v0_,a45_⟩,[⟨.x 0,⟨[(5,ow 107)],[],[(107,.arr 3 I6)]⟩⟩])) (nn (mm (.mk [.join [⟨.n,⟨r108_,v0_,a45_⟩⟩]] none (nn (mm (nn (mm (.mk [] (some (⟨[(2,pt 48 0),(3,pt 64 0),(5,ow 107),(6,ow 256),(7,kk),(28,kk),(29,kk),(30,ii)],v0_,a45_⟩,[⟨.x 1,⟨r109_,v0_,a45_⟩⟩,⟨.x 2,⟨r109_,v0_,a45_⟩⟩])) (nn (nn (mm (mm (nn (nn (mm (.mk [.join [⟨.n,⟨[(2,pt 48 0),(3,pt 64 0),(5,ow 107),(6,ow 256),(7,kk),(28,kk),(29,kk),(30,kk),(62,bb)],v0_,a45_⟩⟩]] none .nil .nil) .nil))) .nil) .nil))) .nil) .nil)) .nil)) .nil) .nil)) .nil) .nil)) .nil)))) .nil))) func137 ⟨⟨quV,trivial⟩,trivial⟩
def qg8(n:yB0)(p:yB6)(v:Int):Option (Int⊕(Unit⊕Int)):=
 bif decide (v<(n.2.1.length:Int)) then(
 gd (inB v n.2.1.length)<|
 gd (inB v p.1.length)<|
 (qhO (p.1.getD v.toNat 0) (min 1000 (((((n.2.1.getD v.toNat ([],0,0,0,0,0,[])).2).2).2).1))).bind fun r2=>
 bif !r2 then(
 some (.inr (.inr 1)))
 else(
 some (.inl (wi64 (v+1)))))
 else(
 some (.inr (.inl ())))
def qfT(n:yB0)(p:yB6):Option (Int):=
 (qcy (n.1,n.2.1,n.2.2.1,n.2.2.2.1,n.2.2.2.2.1,n.2.2.2.2.2)).bind fun r=>
 bif !decide (r=0) then(
 some r)
 else(
 Option.bind (α:=Bool) (
 bif !decide ((p.1.length:Int)=(n.2.1.length:Int)) then(
 some true)
 else(
 bif !decide ((p.2.1.length:Int)=(n.2.2.1.length:Int)) then(
 some true)
 else(
 some (!decide ((p.2.2.length:Int)=(n.2.2.2.1.length:Int)))))) fun s=>
 bif s then(
 some 9)
 else(
 (iter (fun x=>qg8 n p x) 0).bind fun s2=>
 s2.elim (fun s3=>
 (qaF p.2.1 (fun h=>(qil h.1).bind fun y=>some y)).bind fun r3=>
 bif r3 then(
 some 1)
 else(
 (qlr (n.1,n.2.1,n.2.2.1,n.2.2.2.1,n.2.2.2.2.1,n.2.2.2.2.2) (p.1,p.2.1,p.2.2)).bind fun r4=>
 bif !((List.range 24).all fun i=>decide ((r4.1.getD i 0)=(r4.2.getD i 0))) then(
 some 12)
 else(
 (ql5 (n.1,n.2.1,n.2.2.1,n.2.2.2.1,n.2.2.2.2.1,n.2.2.2.2.2) (p.1,p.2.1,p.2.2)).bind fun r5=>
 bif decide ((r5.length:Int)<(n.1.length:Int)) then(
 some 13)
 else(
 some 0))))
 (fun s4=>
 some s4)))
def qfw:Fun:=
 ⟨78,2,1,
 ⟨r51_,[],[]⟩,
 ⟨[(0,ii)],[],[]⟩,
 fun x=>qfT x.1 x.2⟩
theorem qg9:FO qfw:=fi [3000008] [qcu,qiH,qbg,qlq,qls,qoj] 77 [] ((nn (nn (mm (mm (.mk [.join [⟨.n,⟨[(2,pt 48 0),(3,pt 64 0),(38,bb)],v0_,[]⟩⟩]] none .nil .nil) .nil) (mm (nn (mm (.mk [] (some (⟨[(2,pt 48 0),(3,pt 64 0),(40,kk),(41,kk),(42,ii)],v0_,[]⟩,[⟨.x 0,⟨r32_,v0_,[]⟩⟩,⟨.r,⟨[(4,ii)],[],[]⟩⟩])) .nil .nil) .nil)) .nil))))) func78 ⟨⟨qdc,qmP,qbL,qru,qpC,qtD,trivial⟩,trivial⟩
def qcl(rates:List Int)(v:Int)(out:List Bool):Option ((Int×List Bool)⊕(List Bool)):=
 bif decide (v<(rates.length:Int)) then(
 gd (inB v rates.length)<|
 gd (fits (out.length+1) 1)<|
 some (.inl (wi64 (v+1),out++[(!decide (rates.getD v.toNat 0=0))])))
 else(
 some (.inr out))
def qgC(rates:List Int):Option (List Bool):=
 (iter (fun x=>qcl rates x.1 x.2) (0,[])).bind fun s=>
 some s
def qlt:Fun:=
 ⟨138,1,1,
 ⟨r123_,[],[]⟩,
 ⟨[(0,ow 0)],[],a139_⟩,
 fun x=>qgC x⟩
theorem qrv:FO qlt:=fi [] [] 19 [] ((nn (nn (mm (nn (mm (.mk [] (some (⟨[(3,ow 75),(6,kk),(7,kk),(8,ii)],[],[(75,.arr 4 (.bool))]⟩,[⟨.x 0,⟨[(3,ow 75)],[],[(75,.arr 4 (.bool))]⟩⟩])) .nil .nil) .nil)) .nil)))) func138 ⟨trivial,trivial⟩
def qfU(n:yB0)(p:yB6):Option (Int×List Bool×List Bool):=
 (qcy (n.1,n.2.1,n.2.2.1,n.2.2.2.1,n.2.2.2.2.1,n.2.2.2.2.2)).bind fun r=>
 bif !decide (r=0) then(
 some (r,[],[]))
 else(
 (qfT (n.1,n.2.1,n.2.2.1,n.2.2.2.1,n.2.2.2.2.1,n.2.2.2.2.2) (p.1,p.2.1,p.2.2)).bind fun r2=>
 bif !decide (r2=0) then(
 some (r2,[],[]))
 else(
 (qgC p.1).bind fun r3=>
 (qgC p.2.1).bind fun r4=>
 some (0,r3,r4)))
def qiI:Fun:=
 ⟨79,2,2,
 ⟨r51_,[],[]⟩,
 ⟨[(0,.agg [.own 0,.own 1]),(1,ii)],[],[(0,.arr 4 (.bool)),(1,.arr 4 (.bool))]⟩,
 fun x=>qfU x.1 x.2⟩
theorem qmQ:FO qiI:=fi [] [qcu,qfw,qlt] 28 [] .nil func79 ⟨⟨qdc,qg9,qrv,trivial⟩,trivial⟩
def qep(l:List Bool×List Bool):Option (List Bool):=
 gd (fits (0+l.1.length) 1)<|
 gd (fits (([]++l.1).length+l.2.length) 1)<|
 some (([]++l.1)++l.2)
def qfV:Fun:=
 ⟨80,1,1,
 ⟨[(0,dd (.pair (.sl (.bool)) (.sl (.bool))))],[],[]⟩,
 ⟨[(0,ow 0)],[],a139_⟩,
 fun x=>qep x⟩
theorem qi8:FO qfV:=fi [] [] 11 [] .nil func80 ⟨trivial,trivial⟩
def ql6(v:Int×Int×Bool×Bool):Option (Bool):=
 (qdy (v.1,v.2.1,v.2.2.1,v.2.2.2)).bind fun r=>
 bif r then(
 some (decide (v.2.1=v.1)))
 else(
 some false)
def qok:Fun:=
 ⟨139,1,1,
 ⟨[(0,dd tT1)],[],[]⟩,
 ⟨[(0,bb)],[],[]⟩,
 fun x=>ql6 x⟩
theorem qtE:FO qok:=fi [] [qdj] 12 [] .nil func139 ⟨⟨qem,trivial⟩,trivial⟩
def qi9(v:Int×Int×Bool×Bool):Option (Bool):=
 (ql6 (v.1,v.2.1,v.2.2.1,v.2.2.2)).bind fun r=>
 bif r then(
 some v.2.2.1)
 else(
 some false)
def qjW:Fun:=
 ⟨81,1,1,
 ⟨[(0,dd tT1)],[],[]⟩,
 ⟨[(0,bb)],[],[]⟩,
 fun x=>qi9 x⟩
theorem qol:FO qjW:=fi [] [qok] 9 [] .nil func81 ⟨⟨qtE,trivial⟩,trivial⟩
def qim(n:yB0)(p:yB6)(node:Int):Option (Int×Int):=
 (qfT (n.1,n.2.1,n.2.2.1,n.2.2.2.1,n.2.2.2.2.1,n.2.2.2.2.2) (p.1,p.2.1,p.2.2)).bind fun r=>
 bif !decide (r=0) then(
 some (0,r))
 else(
 Option.bind (α:=Bool) (
 bif decide (node<0) then(
 some true)
 else(
 some (decide ((n.1.length:Int)<=node)))) fun s=>
 bif s then(
 some (0,8))
 else(
 (qlr (n.1,n.2.1,n.2.2.1,n.2.2.2.1,n.2.2.2.2.1,n.2.2.2.2.2) (p.1,p.2.1,p.2.2)).bind fun r2=>
 gd (inB node 24)<|
 some (r2.1.getD node.toNat 0,0)))
def qlu:Fun:=
 ⟨194,3,2,
 ⟨r100_,[],[]⟩,
 ⟨r50_,[],[]⟩,
 fun x=>qim x.1 x.2.1 x.2.2⟩
theorem qrw:FO qlu:=fi [] [qfw,qls] 30 [] ((nn (nn (mm (mm (.mk [.join [⟨.n,⟨[(2,kk),(3,pt 64 0),(4,pt 80 0),(23,bb)],v28_,[]⟩⟩]] none .nil .nil) .nil) .nil)))) func194 ⟨⟨qg9,qpC,trivial⟩,trivial⟩
def qhQ(n:yB0)(p:yB6)(station:Int):Option (Bool):=
 gd (inB station n.2.2.2.1.length)<|
 (qim (n.1,n.2.1,n.2.2.1,n.2.2.2.1,n.2.2.2.2.1,n.2.2.2.2.2) (p.1,p.2.1,p.2.2) (((n.2.2.2.1.getD station.toNat ([],0,0,0,0)).2).1)).bind fun r=>
 bif decide (r.2=0) then(
 some (!decide (r.1=0)))
 else(
 some false)
def qiJ:Fun:=
 ⟨140,3,1,
 ⟨r100_,[],[]⟩,
 ⟨[(0,bb)],[],[]⟩,
 fun x=>qhQ x.1 x.2.1 x.2.2⟩
theorem qmR:FO qiJ:=fi [] [qlu] 27 [] .nil func140 ⟨⟨qrw,trivial⟩,trivial⟩
def qjX(n:yB0)(p:yB6)(v:Int):Option (Int⊕(Unit⊕Bool)):=
 bif decide (v<(p.2.2.length:Int)) then(
 gd (inB v p.2.2.length)<|
 Option.bind (α:=Bool) (
 bif p.2.2.getD v.toNat false then(
 bif decide (v<(n.2.2.2.1.length:Int)) then(
 (qhQ (n.1,n.2.1,n.2.2.1,n.2.2.2.1,n.2.2.2.2.1,n.2.2.2.2.2) (p.1,p.2.1,p.2.2) v).bind fun r=>
 some (!r))
 else(
 some false))
 else(
 some false)) fun s=>
 bif s then(
 some (.inr (.inr true)))
 else(
 some (.inl (wi64 (v+1)))))
 else(
 some (.inr (.inl ())))
def qja(n:yB0)(p:yB6):Option (Bool):=
 (iter (fun x=>qjX n p x) 0).bind fun s2=>
 s2.elim (fun s3=>
 some false)
 (fun s4=>
 some s4)
def qjY:Fun:=
 ⟨82,2,1,
 ⟨r51_,[],[]⟩,
 ⟨[(0,bb)],[],[]⟩,
 fun x=>qja x.1 x.2⟩
theorem qom:FO qjY:=fi [] [qiJ] 31 [] ((nn (mm (nn (mm (.mk [] (some (⟨[(2,pt 48 0),(3,pt 64 0),(8,kk),(9,kk),(10,ii)],v0_,[]⟩,[⟨.x 0,⟨[],[],[]⟩⟩,⟨.r,⟨[(4,bb)],[],[]⟩⟩])) (nn (nn (mm (mm (nn (mm (.mk [.join [⟨.n,⟨[(2,pt 48 0),(3,pt 64 0),(8,kk),(9,kk),(10,kk),(29,bb)],v0_,[]⟩⟩]] none .nil .nil) .nil)) .nil) .nil))) .nil) .nil)) .nil))) func82 ⟨⟨qmR,trivial⟩,trivial⟩
def qb6(d:yB3)(r6:List Bool)(v:Int)(v2:List Bool):Option ((Int×List Bool)⊕(Unit⊕Int)):=
 bif decide (v<(r6.length:Int)) then(
 gd (inB v v2.length)<|
 Option.bind (α:=Bool×List Bool) (
 bif v2.getD v.toNat false then(
 gd (inB v d.1.length)<|
 (qi9 (d.1.getD v.toNat (0,0,false,false))).bind fun r7=>
 some ((!r7),v2))
 else(
 some (false,v2))) fun s2=>
 bif s2.1 then(
 some (.inr (.inr 21)))
 else(
 some (.inl (wi64 (v+1),s2.2))))
 else(
 some (.inr (.inl ())))
def qjb(n:yB0)(d:yB3):Option (Int):=
 (qcy (n.1,n.2.1,n.2.2.1,n.2.2.2.1,n.2.2.2.2.1,n.2.2.2.2.2)).bind fun r=>
 bif !decide (r=0) then(
 some r)
 else(
 Option.bind (α:=Bool) (
 (qgz (n.1,n.2.1,n.2.2.1,n.2.2.2.1,n.2.2.2.2.1,n.2.2.2.2.2)).bind fun r2=>
 bif !decide ((d.1.length:Int)=r2) then(
 some true)
 else(
 (qav d.1 (fun h=>(qgB h.1).bind fun y=>some y)).bind fun r3=>
 some r3)) fun s=>
 bif s then(
 some 20)
 else(
 (qfT (n.1,n.2.1,n.2.2.1,n.2.2.2.1,n.2.2.2.2.1,n.2.2.2.2.2) (d.2.1,d.2.2.1,d.2.2.2)).bind fun r4=>
 bif !decide (r4=0) then(
 some r4)
 else(
 (qfU (n.1,n.2.1,n.2.2.1,n.2.2.2.1,n.2.2.2.2.1,n.2.2.2.2.2) (d.2.1,d.2.2.1,d.2.2.2)).bind fun r5=>
 bif !decide (r5.1=0) then(
 some r5.1)
 else(
 (qep (r5.2.1,r5.2.2)).bind fun r6=>
 (iter (fun x=>qb6 d r6 x.1 x.2) (0,r6)).bind fun s3=>
 s3.elim (fun s4=>
 (qja (n.1,n.2.1,n.2.2.1,n.2.2.2.1,n.2.2.2.2.1,n.2.2.2.2.2) (d.2.1,d.2.2.1,d.2.2.2)).bind fun r8=>
 bif r8 then(
 some 21)
 else(
 some 0))
 (fun s5=>
 some s5)))))
def qjZ:Fun:=
 ⟨32,2,1,
 ⟨[(0,dd tT0),(1,dd (.pair (.sl tT1) tT6))],[],[]⟩,
 ⟨[(0,ii)],[],[]⟩,
 fun x=>qjb x.1 x.2⟩
theorem qon:FO qjZ:=fi [] [qcu,qhI,qbB,qlp,qfw,qiI,qfV,qjW,qjY] 67 [] ((nn (nn (mm (mm (.mk [.join [⟨.n,⟨[(2,pt 48 0),(3,pt 64 0),(26,bb)],v42_,[]⟩⟩]] none .nil .nil) .nil) (nn (nn (nn (mm (nn (mm (.mk [] (some (⟨[(2,pt 48 0),(3,pt 64 0),(45,ow 736),(46,kk),(47,ii)],v42_,[(736,.arr 4 (.bool))]⟩,[⟨.x 0,⟨r32_,v42_,[]⟩⟩,⟨.r,⟨[(4,ii)],[],[]⟩⟩])) (nn (nn (mm (mm (nn (mm (.mk [.join [⟨.n,⟨[(2,pt 48 0),(3,pt 64 0),(45,ow 736),(46,kk),(47,kk),(61,bb)],v42_,[(736,.arr 4 (.bool))]⟩⟩]] none .nil .nil) .nil)) .nil) .nil))) .nil) .nil)) .nil)))))))) func32 ⟨⟨qdc,qll,qde,qrt,qg9,qmQ,qi8,qol,qom,trivial⟩,trivial⟩
def ql7(s:yB5):Option (Bool):=
 Option.bind (α:=Bool) (
 bif decide (s.2.2.2.1=0) then(
 bif decide (s.2.2.2.2.1=0) then(
 bif decide ((s.2.2.2.2.2.1.length:Int)=0) then(
 some (decide (s.2.2.2.2.2.2=0)))
 else(
 some false))
 else(
 some false))
 else(
 some false)) fun s2=>
 Option.bind (α:=Bool) (
 bif decide (s.1=1) then(
 some (decide (s.1=1)))
 else(
 Option.bind (α:=Bool) (
 bif decide (s.1=2) then(
 some (decide (s.1=2)))
 else(
 Option.bind (α:=Bool) (
 bif decide (s.1=3) then(
 some (decide (s.1=3)))
 else(
 some (decide (s.1=4)))) fun s3=>
 some s3)) fun s4=>
 some s4)) fun s5=>
 bif s5 then(
 bif decide (s.2.2.1=0) then(
 some s2)
 else(
 some false))
 else(
 bif decide (s.1=5) then(
 bif decide (s.2.1=0) then(
 some (decide (s.2.2.2.2.2.2=0)))
 else(
 some false))
 else(
 bif decide (s.1=6) then(
 bif decide (s.2.1=0) then(
 some s2)
 else(
 some false))
 else(
 some false)))
def qoo:Fun:=
 ⟨217,1,1,
 ⟨r53_,[],[]⟩,
 ⟨[(0,bb)],[],[]⟩,
 fun x=>ql7 x⟩
theorem qtF:FO qoo:=fi [] [] 57 [] ((nn (nn (mm (.mk [.join [⟨.n,⟨[(1,pt 32 0),(3,pt 64 0),(4,bb)],v97_,[]⟩⟩]] none .nil .nil) (mm (nn (mm (mm (nn (.mk [.join [⟨.n,⟨r73_,v97_,[]⟩⟩]] none .nil (nn (.mk [.join [⟨.n,⟨r73_,v97_,[]⟩⟩]] none .nil (nn (.mk [.join [⟨.n,⟨r73_,v97_,[]⟩⟩]] none .nil .nil)))))) .nil) .nil)) .nil))))) func217 ⟨trivial,trivial⟩
def qha(v:Int×Int×Bool×Bool)(vopen:Bool):Option ((Int×Int×Bool×Bool)×Int):=
 (qdy (v.1,v.2.1,v.2.2.1,v.2.2.2)).bind fun r=>
 bif !r then(
 some ((v.1,(v.2.1,(v.2.2.1,v.2.2.2))),20))
 else(
 some ((v.1,(v.2.1,(vopen,v.2.2.2))),0))
def qku:Fun:=
 ⟨226,2,2,
 ⟨[(0,dd tT1),(1,bb)],[],[]⟩,
 ⟨r72_,[],[]⟩,
 fun x=>qha x.1 x.2⟩
theorem qp0:FO qku:=fi [] [qdj] 13 [] .nil func226 ⟨⟨qem,trivial⟩,trivial⟩
def qlv(n:yB0)(s:yB5)(d:yB4)(d2:List Int)(d3:List Int)(d4:List Bool):Option yB8:=
 Option.bind (α:=Bool×yB4×List Int×List Int×List Bool) (
 bif decide (s.2.1<0) then(
 some (true,d,d2,d3,d4))
 else(
 some (decide ((d.length:Int)<=s.2.1),d,d2,d3,d4))) fun s2=>
 bif s2.1 then(
 some (8,s2.2.1,s2.2.2.1,s2.2.2.2.1,s2.2.2.2.2))
 else(
 Option.bind (α:=(yB4×List Int×List Int×List Bool)⊕yB8) (
 bif decide (s.1=2) then(
 (qfU (n.1,n.2.1,n.2.2.1,n.2.2.2.1,n.2.2.2.2.1,n.2.2.2.2.2) (s2.2.2.1,s2.2.2.2.1,s2.2.2.2.2)).bind fun r=>
 bif !decide (r.1=0) then(
 some (.inr (r.1,s2.2.1,s2.2.2.1,s2.2.2.2.1,s2.2.2.2.2)))
 else(
 (qep (r.2.1,r.2.2)).bind fun r2=>
 gd (inB s.2.1 r2.length)<|
 bif r2.getD s.2.1.toNat false then(
 some (.inr (22,s2.2.1,s2.2.2.1,s2.2.2.2.1,s2.2.2.2.2)))
 else(
 some (.inl (s2.2.1,s2.2.2.1,s2.2.2.2.1,s2.2.2.2.2)))))
 else(
 some (.inl (s2.2.1,s2.2.2.1,s2.2.2.2.1,s2.2.2.2.2)))) fun s3=>
 s3.elim (fun s4=>
 gd (inB s.2.1 s4.1.length)<|
 (qha (s4.1.getD s.2.1.toNat (0,0,false,false)) (decide (s.1=1))).bind fun r3=>
 gd (inB s.2.1 s4.1.length)<|
 some (r3.2,s4.1.set s.2.1.toNat (r3.1.1,(r3.1.2.1,(r3.1.2.2.1,r3.1.2.2.2))),s4.2.1,s4.2.2.1,s4.2.2.2))
 (fun s5=>
 some (s5.1,s5.2.1,s5.2.2.1,s5.2.2.2.1,s5.2.2.2.2)))
def qpE:Fun:=
 ⟨218,3,1,
 ⟨r27_,v5_,a1_⟩,
 ⟨[(0,ii)],v5_,a1_⟩,
 fun x=>qlv x.1 x.2.1 x.2.2.1 x.2.2.2.1 x.2.2.2.2.1 x.2.2.2.2.2⟩
theorem quW:FO qpE:=fi [] [qiI,qfV,qku] 69 [] ((nn (mm (mm (.mk [.join [⟨.n,⟨[(1,pt 0 0),(3,pt 64 0),(5,pt 96 0),(23,bb)],v86_,a1_⟩⟩]] none .nil .nil) .nil) (mm (nn (.mk [.join [⟨.n,⟨[(1,pt 0 0),(5,pt 96 0)],v47_,a1_⟩⟩,⟨.r,⟨[(6,ii)],v5_,a1_⟩⟩]] none .nil .nil)) .nil)))) func218 ⟨⟨qmQ,qi8,qp0,trivial⟩,trivial⟩
def qop(n:yB0)(s:yB5)(d:yB4)(d2:List Int)(d3:List Int)(d4:List Bool):Option yB8:=
 Option.bind (α:=Bool×yB4×List Int×List Int×List Bool) (
 bif decide (s.2.1<0) then(
 some (true,d,d2,d3,d4))
 else(
 some (decide ((n.2.2.2.1.length:Int)<=s.2.1),d,d2,d3,d4))) fun s2=>
 bif s2.1 then(
 some (8,s2.2.1,s2.2.2.1,s2.2.2.2.1,s2.2.2.2.2))
 else(
 Option.bind (α:=Bool×yB4×List Int×List Int×List Bool) (
 bif decide (s.1=3) then(
 (qhQ (n.1,n.2.1,n.2.2.1,n.2.2.2.1,n.2.2.2.2.1,n.2.2.2.2.2) (s2.2.2.1,s2.2.2.2.1,s2.2.2.2.2) s.2.1).bind fun r=>
 some ((!r),s2.2.1,s2.2.2.1,s2.2.2.2.1,s2.2.2.2.2))
 else(
 some (false,s2.2.1,s2.2.2.1,s2.2.2.2.1,s2.2.2.2.2))) fun s3=>
 bif s3.1 then(
 some (22,s3.2.1,s3.2.2.1,s3.2.2.2.1,s3.2.2.2.2))
 else(
 gd (inB s.2.1 s3.2.2.2.2.length)<|
 some (0,s3.2.1,s3.2.2.1,s3.2.2.2.1,s3.2.2.2.2.set s.2.1.toNat (decide (s.1=3)))))
def qrx:Fun:=
 ⟨219,3,1,
 ⟨r27_,v5_,a1_⟩,
 ⟨[(0,ii)],v5_,a1_⟩,
 fun x=>qop x.1 x.2.1 x.2.2.1 x.2.2.2.1 x.2.2.2.2.1 x.2.2.2.2.2⟩
theorem qwl:FO qrx:=fi [] [qiJ] 43 [] ((nn (mm (mm (.mk [.join [⟨.n,⟨[(1,pt 0 0),(3,pt 64 0),(5,pt 96 0),(17,bb)],v86_,a1_⟩⟩]] none .nil .nil) .nil) (mm (mm (.mk [.join [⟨.n,⟨[(1,pt 0 0),(5,pt 96 0),(31,bb)],v47_,a1_⟩⟩]] none .nil .nil) .nil) .nil)))) func219 ⟨⟨qmR,trivial⟩,trivial⟩
def qhb(i:Int)(v:yB0):Option (Bool):=
 bif decide (0<=i) then(
 some (decide (i<(v.2.2.1.length:Int))))
 else(
 some false)
def qkv:Fun:=
 ⟨240,2,1,
 ⟨[(0,ii),(1,.one (.sel tT0))],[],[]⟩,
 ⟨[(0,bb)],[],[]⟩,
 fun x=>qhb x.1 x.2⟩
theorem qp1:FO qkv:=fi [] [] 13 [] .nil func240 ⟨trivial,trivial⟩
def ql8(n:yB0)(h:Int×Bool):Option (Int×Int):=
 gd (inB h.1 n.2.1.length)<|
 bif h.2 then(
 some ((((n.2.1.getD h.1.toNat ([],(0,(0,(0,(0,(0,[]))))))).2).2).1,((n.2.1.getD h.1.toNat ([],(0,(0,(0,(0,(0,[]))))))).2).1))
 else(
 some (((n.2.1.getD h.1.toNat ([],(0,(0,(0,(0,(0,[]))))))).2).1,(((n.2.1.getD h.1.toNat ([],(0,(0,(0,(0,(0,[]))))))).2).2).1))
def qoq:Fun:=
 ⟨241,2,2,
 ⟨[(0,dd tT0),(1,dd (.pair I6 (.bool)))],[],[]⟩,
 ⟨r50_,[],[]⟩,
 fun x=>ql8 x.1 x.2⟩
theorem qtG:FO qoq:=fi [] [] 23 [] .nil func241 ⟨trivial,trivial⟩
def qbd(s:List Int)(v:Int)(v2:Int):Option (Int⊕(Unit⊕Int)):=
 bif decide (v2<(s.length:Int)) then(
 gd (inB v2 s.length)<|
 bif decide (v=s.getD v2.toNat 0) then(
 some (.inr (.inr v2)))
 else(
 some (.inl (wi64 (v2+1)))))
 else(
 some (.inr (.inl ())))
def qd5(s:List Int)(v:Int):Option (Int):=
 (iter (fun x=>qbd s v x) 0).bind fun s2=>
 s2.elim (fun s3=>
 some (-1))
 (fun s4=>
 some s4)
def qfx:Fun:=
 ⟨245,2,1,
 ⟨[(0,dd (.sl I6)),(1,ii)],[],[]⟩,
 ⟨[(0,ii)],[],[]⟩,
 fun x=>qd5 x.1 x.2⟩
theorem qj0:FO qfx:=fi [] [] 19 [] ((nn (mm (nn (mm (.mk [] (some (⟨r34_,[],[]⟩,[⟨.x 0,⟨[],[],[]⟩⟩,⟨.r,⟨[(4,ii)],[],[]⟩⟩])) .nil .nil) .nil)) .nil))) func245 ⟨trivial,trivial⟩
def qb7(s:List Int)(v:Int):Option (Bool):=
 (qd5 s v).bind fun r=>
 some (decide (0<=r))
def qd0:Fun:=
 ⟨242,2,1,
 ⟨[(0,dd (.sl I6)),(1,ii)],[],[]⟩,
 ⟨[(0,bb)],[],[]⟩,
 fun x=>qb7 x.1 x.2⟩
theorem qhV:FO qd0:=fi [] [qfx] 9 [] .nil func242 ⟨⟨qj0,trivial⟩,trivial⟩
def qcM(n:yB0)(p:yB7)(vat:Int)(v:Int)(passed:List Int):Option ((Int×Int×List Int)⊕(Int⊕Bool)):=
 bif decide (v<(p.2.2.1.length:Int)) then(
 gd (inB v p.2.2.1.length)<|
 Option.bind (α:=Bool×List Int) (
 bif decide ((p.2.2.1.getD v.toNat (0,false)).1<0) then(
 some (true,passed))
 else(
 some (decide ((n.2.1.length:Int)<=(p.2.2.1.getD v.toNat (0,false)).1),passed))) fun s2=>
 bif s2.1 then(
 some (.inr (.inr false)))
 else(
 (ql8 (n.1,n.2.1,n.2.2.1,n.2.2.2.1,n.2.2.2.2.1,n.2.2.2.2.2) ((p.2.2.1.getD v.toNat (0,false)).1,(p.2.2.1.getD v.toNat (0,false)).2)).bind fun r3=>
 Option.bind (α:=Bool×List Int) (
 bif !decide (r3.1=vat) then(
 some (true,s2.2))
 else(
 (qb7 s2.2 r3.2).bind fun r4=>
 some (r4,s2.2))) fun s3=>
 bif s3.1 then(
 some (.inr (.inr false)))
 else(
 gd (fits (s3.2.length+1) 8)<|
 some (.inl (r3.2,wi64 (v+1),s3.2++[r3.2])))))
 else(
 some (.inr (.inl vat)))
def qj1(n:yB0)(p:yB7):Option (Bool):=
 Option.bind (α:=Bool) (
 (qhb p.1 (n.1,n.2.1,n.2.2.1,n.2.2.2.1,n.2.2.2.2.1,n.2.2.2.2.2)).bind fun r=>
 bif !r then(
 some true)
 else(
 (qhb p.2.1 (n.1,n.2.1,n.2.2.1,n.2.2.2.1,n.2.2.2.2.1,n.2.2.2.2.2)).bind fun r2=>
 bif !r2 then(
 some true)
 else(
 bif decide (p.1=p.2.1) then(
 some true)
 else(
 bif decide (p.2.2.2<1) then(
 some true)
 else(
 bif decide (1000<p.2.2.2) then(
 some true)
 else(
 some (decide (32<(p.2.2.1.length:Int))))))))) fun s=>
 bif s then(
 some false)
 else(
 gd (inB p.1 n.2.2.1.length)<|
 (iter (fun x=>qcM n p x.1 x.2.1 x.2.2) (((n.2.2.1.getD p.1.toNat ([],0,0)).2).1,0,[((n.2.2.1.getD p.1.toNat ([],0,0)).2).1])).bind fun s4=>
 s4.elim (fun s5=>
 gd (inB p.2.1 n.2.2.1.length)<|
 some (decide (s5=((n.2.2.1.getD p.2.1.toNat ([],(0,0))).2).1)))
 (fun s6=>
 some s6))
def qmS:Fun:=
 ⟨232,2,1,
 ⟨r129_,[],[]⟩,
 ⟨[(0,bb)],[],[]⟩,
 fun x=>qj1 x.1 x.2⟩
theorem qsk:FO qmS:=fi [56] [qkv,qoq,qd0] 104 [] ((nn (mm (.mk [.fv [(2,.pair (.sl (.str)) (.pair (.sl (.pair (.str) tT5)) (.pair (.sl (.pair (.str) tT7)) (.pair (.sl tT2) tT7))))]] none .nil .nil) (mm (mm (.mk [.join [⟨.n,⟨[(2,kk),(3,pt 64 0),(47,bb)],[(64,55,kp 4)],[]⟩⟩]] none .nil .nil) .nil) (nn (nn (mm (nn (mm (.mk [] (some (⟨[(2,kk),(3,pt 64 0),(6,ii),(7,ow 139),(58,kk),(59,kk),(60,ii)],[(64,55,kp 4)],a106_⟩,[⟨.x 0,⟨[(2,kk),(3,pt 64 0),(6,ii)],[(64,55,kp 4)],[]⟩⟩,⟨.r,⟨[(4,bb)],[],[]⟩⟩])) (nn (nn (mm (mm (nn (mm (mm (.mk [.join [⟨.n,⟨[(2,kk),(3,pt 64 0),(6,kk),(7,ow 139),(9,pt 160 0),(58,kk),(59,kk),(60,kk),(74,bb)],[(64,55,kp 4),(160,140,[.keep,.keep])],a106_⟩⟩]] none .nil .nil) .nil) (nn (mm (mm (.mk [.join [⟨.n,⟨[(2,kk),(3,pt 64 0),(7,ow 139),(11,kk),(58,kk),(59,kk),(60,kk),(88,bb)],[(64,55,kp 4)],a106_⟩⟩]] none .nil .nil) .nil) .nil)))) .nil) .nil))) .nil) .nil)) .nil))))))) func232 ⟨⟨qp1,qtG,qhV,trivial⟩,trivial⟩
def qj2(n:yB0)(p:yB7):Option (Bool):=
 (qcy (n.1,n.2.1,n.2.2.1,n.2.2.2.1,n.2.2.2.2.1,n.2.2.2.2.2)).bind fun r=>
 bif decide (r=0) then(
 (qj1 (n.1,n.2.1,n.2.2.1,n.2.2.2.1,n.2.2.2.2.1,n.2.2.2.2.2) (p.1,p.2.1,p.2.2.1,p.2.2.2)).bind fun r2=>
 some r2)
 else(
 some false)
def qmT:Fun:=
 ⟨227,2,1,
 ⟨r129_,[],[]⟩,
 ⟨[(0,bb)],[],[]⟩,
 fun x=>qj2 x.1 x.2⟩
theorem qsl:FO qmT:=fi [] [qcu,qmS] 13 [] .nil func227 ⟨⟨qdc,qsk,trivial⟩,trivial⟩
def qe6(i:Int)(v:yB3):Option (Bool):=
 gd (inB i v.1.length)<|
 (qi9 (v.1.getD i.toNat (0,0,false,false))).bind fun r=>
 some r
def qhR:Fun:=
 ⟨233,2,1,
 ⟨[(0,ii),(1,.one (.sel (.pair (.sl tT1) tT6)))],[],[]⟩,
 ⟨[(0,bb)],[],[]⟩,
 fun x=>qe6 x.1 x.2⟩
theorem qlw:FO qhR:=fi [] [qjW] 10 [] .nil func233 ⟨⟨qol,trivial⟩,trivial⟩
def ql9(p:yB6)(h:Int×Bool):Option (Int):=
 bif h.2 then(
 gd (inB h.1 p.1.length)<|
 some (wi64 (0-(p.1.getD h.1.toNat 0))))
 else(
 gd (inB h.1 p.1.length)<|
 some (p.1.getD h.1.toNat 0))
def qor:Fun:=
 ⟨236,2,1,
 ⟨[(0,dd tT6),(1,dd (.pair I6 (.bool)))],[],[]⟩,
 ⟨[(0,ii)],[],[]⟩,
 fun x=>ql9 x.1 x.2⟩
theorem qtH:FO qor:=fi [] [] 20 [] .nil func236 ⟨trivial,trivial⟩
def qe7(h:Int×Bool)(v:yB3)(v2:yB3)(v3:Int):Option (Bool):=
 (ql9 v.2 (h.1,h.2)).bind fun r=>
 (qe6 h.1 v2).bind fun r2=>
 bif !r2 then(
 some true)
 else(
 bif decide (r<0) then(
 some true)
 else(
 some (decide (wi64 (r+v3)<0))))
def qlx:Fun:=
 ⟨235,4,1,
 ⟨[(0,dd (.pair I6 (.bool))),(1,.one (.sel (.pair (.sl tT1) tT6))),(2,.one (.sel (.clo 233 (.pair (.sl tT1) tT6)))),(3,.one (.sel I6))],[],[]⟩,
 ⟨[(0,bb)],[],[]⟩,
 fun x=>qe7 x.1 x.2.1 x.2.2.1 x.2.2.2⟩
theorem qry:FO qlx:=fi [] [qor,qhR] 26 [] .nil func235 ⟨⟨qtH,qlw,trivial⟩,trivial⟩
def qau(s:List (Int×Bool))(f:(Int×Bool)×Unit->Option Bool)(v:Int):Option (Int⊕(Unit⊕Int)):=
 bif decide (v<(s.length:Int)) then(
 gd (inB v s.length)<|
 (f (s.getD v.toNat (0,false),())).bind fun r=>
 bif r then(
 some (.inr (.inr v)))
 else(
 some (.inl (wi64 (v+1)))))
 else(
 some (.inr (.inl ())))
def qa7(s:List (Int×Bool))(f:(Int×Bool)×Unit->Option Bool):Option (Int):=
 (iter (fun x=>qau s f x) 0).bind fun s2=>
 s2.elim (fun s3=>
 some (-1))
 (fun s4=>
 some s4)
def qcm:Fun:=
 ⟨243,2,1,
 ⟨r92_,[],[]⟩,
 ⟨[(0,ii)],[],[]⟩,
 fun x=>qa7 x.1 x.2⟩
theorem qe0:FO qcm:=fi [] [] 19 [] ((nn (mm (nn (mm (.mk [] (some (⟨r34_,[],[]⟩,[⟨.x 0,⟨[],[],[]⟩⟩,⟨.r,⟨[(4,ii)],[],[]⟩⟩])) .nil .nil) .nil)) .nil))) func243 ⟨trivial,trivial⟩
def qaZ(s:List (Int×Bool))(f:(Int×Bool)×Unit->Option Bool):Option (Bool):=
 (qa7 s f).bind fun r=>
 some (decide (0<=r))
def qbU:Fun:=
 ⟨234,2,1,
 ⟨r92_,[],[]⟩,
 ⟨[(0,bb)],[],[]⟩,
 fun x=>qaZ x.1 x.2⟩
theorem qdU:FO qbU:=fi [] [qcm] 9 [] .nil func234 ⟨⟨qe0,trivial⟩,trivial⟩
def qma(n:yB0)(d:yB3)(x:yB7)(vby:Int):Option (Bool):=
 gd (inB x.1 d.2.2.1.length)<|
 gd (inB x.2.1 d.2.2.1.length)<|
 Option.bind (α:=Bool×List (Int×Int×Bool×Bool)×List Int×List Int×List Bool) (
 (qe6 (wi64 ((n.2.1.length:Int)+x.1)) (d.1,d.2.1,d.2.2.1,d.2.2.2)).bind fun r=>
 bif !r then(
 some (true,(d.1,(d.2.1,(d.2.2.1,d.2.2.2)))))
 else(
 (qe6 (wi64 ((n.2.1.length:Int)+x.2.1)) (d.1,d.2.1,d.2.2.1,d.2.2.2)).bind fun r2=>
 bif !r2 then(
 some (true,(d.1,(d.2.1,(d.2.2.1,d.2.2.2)))))
 else(
 bif decide (d.2.2.1.getD x.1.toNat 0<0) then(
 some (true,(d.1,(d.2.1,(d.2.2.1,d.2.2.2)))))
 else(
 bif decide (wi64 (0-(d.2.2.1.getD x.2.1.toNat 0))<0) then(
 some (true,(d.1,(d.2.1,(d.2.2.1,d.2.2.2)))))
 else(
 bif decide (wi64 ((d.2.2.1.getD x.1.toNat 0)+vby)<0) then(
 some (true,(d.1,(d.2.1,(d.2.2.1,d.2.2.2)))))
 else(
 some (decide (wi64 ((wi64 (0-(d.2.2.1.getD x.2.1.toNat 0)))+vby)<0),(d.1,(d.2.1,(d.2.2.1,d.2.2.2)))))))))) fun s=>
 bif s.1 then(
 some false)
 else(
 (qaZ x.2.2.1 (fun h=>(qe7 h.1 (d.1,d.2.1,d.2.2.1,d.2.2.2) s.2 vby).bind fun y=>some y)).bind fun r3=>
 some (!r3))
def qos:Fun:=
 ⟨228,4,1,
 ⟨[(0,dd tT0),(1,dd (.pair (.sl tT1) tT6)),(2,dd tT4),(3,ii)],[],[]⟩,
 ⟨[(0,bb)],[],[]⟩,
 fun x=>qma x.1 x.2.1 x.2.2.1 x.2.2.2⟩
theorem qtI:FO qos:=fi [] [qhR,qbU,qlx] 73 [] ((nn (mm (.mk [.fv [(5,.pair (.sl tT1) tT6)]] none .nil .nil) (nn (nn (mm (mm (.mk [.join [⟨.n,⟨[(5,kk),(6,pt 112 0),(7,pt 128 0),(9,pt 160 0),(67,bb)],[(112,55,kp 4),(128,3,[.keep]),(160,177,[.data (.clo 233 (.pair (.sl tT1) tT6))])],[]⟩⟩]] none .nil .nil) .nil) (mm (.mk [.fv [(9,.clo 233 (.pair (.sl tT1) tT6)),(7,.int .i64)]] none .nil .nil) .nil))))))) func228 ⟨⟨qlw,qdU,qry,trivial⟩,trivial⟩
def qin(h:Int×Bool)(rate:Int):Option (Int):=
 bif h.2 then(
 some (wi64 (0-rate)))
 else(
 some rate)
def qly:Fun:=
 ⟨237,2,1,
 ⟨[(0,dd (.pair I6 (.bool))),(1,ii)],[],[]⟩,
 ⟨[(0,ii)],[],[]⟩,
 fun x=>qin x.1 x.2⟩
theorem qrz:FO qly:=fi [] [] 10 [] .nil func237 ⟨trivial,trivial⟩
def qc4(x:yB7)(rate:Int)(v:Int)(p5:yB4)(p6:List Int)(p7:List Int)(p8:List Bool):Option (yB8⊕(yB4×List Int×List Int×List Bool)):=
 bif decide (v<(x.2.2.1.length:Int)) then(
 gd (inB v x.2.2.1.length)<|
 gd (inB ((x.2.2.1.getD v.toNat (0,false)).1) p6.length)<|
 (qin ((x.2.2.1.getD v.toNat (0,false)).1,(x.2.2.1.getD v.toNat (0,false)).2) rate).bind fun r=>
 gd (inB ((x.2.2.1.getD v.toNat (0,false)).1) p6.length)<|
 some (.inl (wi64 (v+1),p5,p6.set (((x.2.2.1.getD v.toNat (0,false)).1).toNat) (wi64 ((p6.getD (((x.2.2.1.getD v.toNat (0,false)).1).toNat) 0)+r)),p7,p8)))
 else(
 some (.inr (p5,p6,p7,p8)))
def qmb(x:yB7)(rate:Int)(p:yB4)(p2:List Int)(p3:List Int)(p4:List Bool):Option (yB4×List Int×List Int×List Bool):=
 gd (inB x.1 p3.length)<|
 gd (inB x.1 p3.length)<|
 gd (inB x.2.1 (p3.set x.1.toNat (wi64 ((p3.getD x.1.toNat 0)+rate))).length)<|
 gd (inB x.2.1 (p3.set x.1.toNat (wi64 ((p3.getD x.1.toNat 0)+rate))).length)<|
 (iter (fun x2=>qc4 x rate x2.1 x2.2.1 x2.2.2.1 x2.2.2.2.1 x2.2.2.2.2) (0,p,p2,(p3.set x.1.toNat (wi64 ((p3.getD x.1.toNat 0)+rate))).set x.2.1.toNat (wi64 (((p3.set x.1.toNat (wi64 ((p3.getD x.1.toNat 0)+rate))).getD x.2.1.toNat 0)-rate)),p4)).bind fun s=>
 some (s.1,s.2.1,s.2.2.1,s.2.2.2)
def qot:Fun:=
 ⟨229,3,0,
 ⟨[(0,pt 0 1),(1,dd tT4),(2,ii)],v5_,a1_⟩,
 ⟨[],v5_,a1_⟩,
 fun x=>qmb x.1 x.2.1 x.2.2.1 x.2.2.2.1 x.2.2.2.2.1 x.2.2.2.2.2⟩
theorem qtJ:FO qot:=fi [] [qly] 51 [] ((nn (nn (nn (nn (mm (.mk [] (some (⟨[(0,pt 0 1),(2,kk),(31,kk),(32,kk),(33,ii)],v5_,a1_⟩,[⟨.x 0,⟨[],v5_,a1_⟩⟩])) .nil .nil) .nil)))))) func229 ⟨⟨qrz,trivial⟩,trivial⟩
def qj3(n:yB0)(s:yB5)(d:yB4)(d2:List Int)(d3:List Int)(d4:List Bool):Option yB8:=
 Option.bind (α:=Bool×yB4×List Int×List Int×List Bool) (
 bif decide (s.2.2.1<(-1000)) then(
 some (true,d,d2,d3,d4))
 else(
 some (decide (1000<s.2.2.1),d,d2,d3,d4))) fun s2=>
 bif s2.1 then(
 some (23,s2.2.1,s2.2.2.1,s2.2.2.2.1,s2.2.2.2.2))
 else(
 (qj2 (n.1,n.2.1,n.2.2.1,n.2.2.2.1,n.2.2.2.2.1,n.2.2.2.2.2) (s.2.2.2.1,s.2.2.2.2.1,s.2.2.2.2.2.1,max s.2.2.1 (wi64 (0-s.2.2.1)))).bind fun r=>
 bif !r then(
 some (23,s2.2.1,s2.2.2.1,s2.2.2.2.1,s2.2.2.2.2))
 else(
 (qma (n.1,n.2.1,n.2.2.1,n.2.2.2.1,n.2.2.2.2.1,n.2.2.2.2.2) (s2.2.1,s2.2.2.1,s2.2.2.2.1,s2.2.2.2.2) (s.2.2.2.1,s.2.2.2.2.1,s.2.2.2.2.2.1,max s.2.2.1 (wi64 (0-s.2.2.1))) s.2.2.1).bind fun r2=>
 bif !r2 then(
 some (22,s2.2.1,s2.2.2.1,s2.2.2.2.1,s2.2.2.2.2))
 else(
 (qmb (s.2.2.2.1,s.2.2.2.2.1,s.2.2.2.2.2.1,max s.2.2.1 (wi64 (0-s.2.2.1))) s.2.2.1 s2.2.1 s2.2.2.1 s2.2.2.2.1 s2.2.2.2.2).bind fun r3=>
 (qfT (n.1,n.2.1,n.2.2.1,n.2.2.2.1,n.2.2.2.2.1,n.2.2.2.2.2) (r3.2.1,r3.2.2.1,r3.2.2.2)).bind fun r4=>
 bif !decide (r4=0) then(
 some (r4,r3.1,r3.2.1,r3.2.2.1,r3.2.2.2))
 else(
 (qja (n.1,n.2.1,n.2.2.1,n.2.2.2.1,n.2.2.2.2.1,n.2.2.2.2.2) (r3.2.1,r3.2.2.1,r3.2.2.2)).bind fun r5=>
 bif r5 then(
 some (22,r3.1,r3.2.1,r3.2.2.1,r3.2.2.2))
 else(
 some (0,r3.1,r3.2.1,r3.2.2.1,r3.2.2.2))))))
def qmU:Fun:=
 ⟨220,3,1,
 ⟨r27_,v5_,a1_⟩,
 ⟨[(0,ii)],v5_,a1_⟩,
 fun x=>qj3 x.1 x.2.1 x.2.2.1 x.2.2.2.1 x.2.2.2.2.1 x.2.2.2.2.2⟩
theorem qsm:FO qmU:=fi [] [qmT,qos,qot,qfw,qjY] 61 [] ((nn (nn (mm (mm (.mk [.join [⟨.n,⟨[(1,pt 0 0),(3,pt 64 0),(5,pt 96 0),(7,pt 128 0),(18,bb)],[(0,40,[.own 1,.own 2,.own 3,.own 4]),(64,33,kp 6),(96,57,kp 7),(128,55,kp 4)],a1_⟩⟩]] none .nil .nil) .nil) .nil)))) func220 ⟨⟨qsl,qtI,qtJ,qg9,qom,trivial⟩,trivial⟩
def qo3(v:Int×Int×Bool×Bool):Option (Int):=
 bif v.2.2.1 then(
 some v.1)
 else(
 some 0)
def qou:Fun:=
 ⟨244,1,1,
 ⟨[(0,dd tT1)],[],[]⟩,
 ⟨[(0,ii)],[],[]⟩,
 fun x=>qo3 x⟩
theorem qtK:FO qou:=fi [] [] 7 [] .nil func244 ⟨trivial,trivial⟩
def qj4(v:Int×Int×Bool×Bool)(ticks:Int):Option (Int×Int×Bool×Bool):=
 (qo3 (v.1,v.2.1,v.2.2.1,v.2.2.2)).bind fun r=>
 Option.bind (α:=Int) (
 bif v.2.2.2 then(
 some v.2.1)
 else(
 Option.bind (α:=Int) (
 bif decide (v.2.1<r) then(
 some (min r (wi64 (v.2.1+ticks))))
 else(
 some (max r (wi64 (v.2.1-ticks))))) fun s=>
 some s)) fun s2=>
 bif decide (v.1=v.1)&&(decide (s2=v.2.1)&&((v.2.2.1==v.2.2.1)&&(v.2.2.2==v.2.2.2))) then(
 some (v.1,(v.2.1,(v.2.2.1,v.2.2.2))))
 else(
 some (v.1,(s2,(v.2.2.1,v.2.2.2))))
def qmV:Fun:=
 ⟨238,2,1,
 ⟨r72_,[],[]⟩,
 ⟨[(0,dd tT1)],[],[]⟩,
 fun x=>qj4 x.1 x.2⟩
theorem qsn:FO qmV:=fi [] [qou] 37 [] ((nn (nn (mm (nn (mm (nn (.mk [.join [⟨.n,⟨[(2,pt 48 0),(4,pt 80 0),(5,pt 96 0)],v82_,[]⟩⟩]] none .nil (nn (.mk [.join [⟨.n,⟨[(2,pt 48 0),(4,pt 80 0),(5,pt 96 0)],v82_,[]⟩⟩]] none .nil .nil)))) .nil)) .nil)))) func238 ⟨⟨qtK,trivial⟩,trivial⟩
def qmc(v:Int×Int×Bool×Bool)(ticks:Int):Option ((Int×Int×Bool×Bool)×Int):=
 (qdy (v.1,v.2.1,v.2.2.1,v.2.2.2)).bind fun r=>
 bif !r then(
 some ((v.1,(v.2.1,(v.2.2.1,v.2.2.2))),20))
 else(
 Option.bind (α:=Bool) (
 bif decide (ticks<0) then(
 some true)
 else(
 some (decide (400<ticks)))) fun s=>
 bif s then(
 some ((v.1,(v.2.1,(v.2.2.1,v.2.2.2))),1))
 else(
 (qj4 (v.1,v.2.1,v.2.2.1,v.2.2.2) ticks).bind fun r2=>
 some ((r2.1,(r2.2.1,(r2.2.2.1,r2.2.2.2))),0)))
def qov:Fun:=
 ⟨230,2,2,
 ⟨r72_,[],[]⟩,
 ⟨r72_,[],[]⟩,
 fun x=>qmc x.1 x.2⟩
theorem qtL:FO qov:=fi [] [qdj,qmV] 22 [] ((nn (mm (mm (nn (nn (mm (.mk [.join [⟨.n,⟨[(1,kk),(2,pt 48 0),(4,pt 80 0),(11,bb)],[(48,133,kp 4),(80,133,kp 4)],[]⟩⟩]] none .nil .nil) .nil))) .nil) .nil))) func230 ⟨⟨qem,qsn,trivial⟩,trivial⟩
def qdD(s:yB5)(s2:Bool×yB4×List Int×List Int×List Bool)(v2:Int)(d5:yB4)(d6:List Int)(d7:List Int)(d8:List Bool):Option (yB8⊕((yB4×List Int×List Int×List Bool)⊕yB8)):=
 bif decide (v2<(s2.2.1.length:Int)) then(
 gd (inB v2 d5.length)<|
 (qmc ((d5.getD v2.toNat (0,0,false,false)).1,((d5.getD v2.toNat (0,0,false,false)).2).1,(((d5.getD v2.toNat (0,0,false,false)).2).2).1,(((d5.getD v2.toNat (0,0,false,false)).2).2).2) s.2.2.1).bind fun r=>
 bif !decide (r.2=0) then(
 some (.inr (.inr (r.2,d5,d6,d7,d8))))
 else(
 gd (inB v2 d5.length)<|
 some (.inl (wi64 (v2+1),d5.set v2.toNat (r.1.1,(r.1.2.1,(r.1.2.2.1,r.1.2.2.2))),d6,d7,d8))))
 else(
 some (.inr (.inl (d5,d6,d7,d8))))
def qow(v:yB0)(s:yB5)(d:yB4)(d2:List Int)(d3:List Int)(d4:List Bool):Option yB8:=
 Option.bind (α:=Bool×yB4×List Int×List Int×List Bool) (
 bif decide (s.2.2.1<1) then(
 some (true,d,d2,d3,d4))
 else(
 some (decide (100<s.2.2.1),d,d2,d3,d4))) fun s2=>
 bif s2.1 then(
 some (1,s2.2.1,s2.2.2.1,s2.2.2.2.1,s2.2.2.2.2))
 else(
 (iter (fun x=>qdD s s2 x.1 x.2.1 x.2.2.1 x.2.2.2.1 x.2.2.2.2) (0,s2.2.1,s2.2.2.1,s2.2.2.2.1,s2.2.2.2.2)).bind fun s3=>
 s3.elim (fun s4=>
 some (0,s4.1,s4.2.1,s4.2.2.1,s4.2.2.2))
 (fun s5=>
 some (s5.1,s5.2.1,s5.2.2.1,s5.2.2.2.1,s5.2.2.2.2)))
def qpF:Fun:=
 ⟨221,3,1,
 ⟨r27_,v5_,a1_⟩,
 ⟨[(0,ii)],v5_,a1_⟩,
 fun x=>qow x.1 x.2.1 x.2.2.1 x.2.2.2.1 x.2.2.2.2.1 x.2.2.2.2.2⟩
theorem quX:FO qpF:=fi [] [qov] 47 [] ((nn (mm (mm (.mk [.join [⟨.n,⟨[(1,pt 0 0),(5,pt 96 0),(18,bb)],v47_,a1_⟩⟩]] none .nil .nil) .nil) (mm (nn (mm (.mk [] (some (⟨[(1,pt 0 0),(5,pt 96 0),(22,ow 1),(23,kk),(24,ii)],v47_,a1_⟩,[⟨.x 0,⟨[],v5_,a1_⟩⟩,⟨.r,⟨[(6,ii)],v5_,a1_⟩⟩])) .nil .nil) .nil)) .nil)))) func221 ⟨⟨qtL,trivial⟩,trivial⟩
def qmd(n:yB0)(s:yB5)(d:yB4)(d2:List Int)(d3:List Int)(d4:List Bool):Option yB8:=
 (ql7 (s.1,s.2.1,s.2.2.1,s.2.2.2.1,s.2.2.2.2.1,s.2.2.2.2.2.1,s.2.2.2.2.2.2)).bind fun r=>
 bif !r then(
 some (22,d,d2,d3,d4))
 else(
 bif decide (s.1=0) then(gd (inB 0 7)<|
 none)
 else(
 bif decide (s.1=1) then(gd (inB 1 7)<|
 (qlv (n.1,n.2.1,n.2.2.1,n.2.2.2.1,n.2.2.2.2.1,n.2.2.2.2.2) (s.1,s.2.1,s.2.2.1,s.2.2.2.1,s.2.2.2.2.1,s.2.2.2.2.2.1,s.2.2.2.2.2.2) d d2 d3 d4).bind fun r2=>
 some (r2.1,r2.2.1,r2.2.2.1,r2.2.2.2.1,r2.2.2.2.2))
 else(
 bif decide (s.1=2) then(gd (inB 2 7)<|
 (qlv (n.1,n.2.1,n.2.2.1,n.2.2.2.1,n.2.2.2.2.1,n.2.2.2.2.2) (s.1,s.2.1,s.2.2.1,s.2.2.2.1,s.2.2.2.2.1,s.2.2.2.2.2.1,s.2.2.2.2.2.2) d d2 d3 d4).bind fun r3=>
 some (r3.1,r3.2.1,r3.2.2.1,r3.2.2.2.1,r3.2.2.2.2))
 else(
 bif decide (s.1=3) then(gd (inB 3 7)<|
 (qop (n.1,n.2.1,n.2.2.1,n.2.2.2.1,n.2.2.2.2.1,n.2.2.2.2.2) (s.1,s.2.1,s.2.2.1,s.2.2.2.1,s.2.2.2.2.1,s.2.2.2.2.2.1,s.2.2.2.2.2.2) d d2 d3 d4).bind fun r4=>
 some (r4.1,r4.2.1,r4.2.2.1,r4.2.2.2.1,r4.2.2.2.2))
 else(
 bif decide (s.1=4) then(gd (inB 4 7)<|
 (qop (n.1,n.2.1,n.2.2.1,n.2.2.2.1,n.2.2.2.2.1,n.2.2.2.2.2) (s.1,s.2.1,s.2.2.1,s.2.2.2.1,s.2.2.2.2.1,s.2.2.2.2.2.1,s.2.2.2.2.2.2) d d2 d3 d4).bind fun r5=>
 some (r5.1,r5.2.1,r5.2.2.1,r5.2.2.2.1,r5.2.2.2.2))
 else(
 bif decide (s.1=5) then(gd (inB 5 7)<|
 (qj3 (n.1,n.2.1,n.2.2.1,n.2.2.2.1,n.2.2.2.2.1,n.2.2.2.2.2) (s.1,s.2.1,s.2.2.1,s.2.2.2.1,s.2.2.2.2.1,s.2.2.2.2.2.1,s.2.2.2.2.2.2) d d2 d3 d4).bind fun r6=>
 some (r6.1,r6.2.1,r6.2.2.1,r6.2.2.2.1,r6.2.2.2.2))
 else(
 bif decide (s.1=6) then(gd (inB 6 7)<|
 (qow (n.1,n.2.1,n.2.2.1,n.2.2.2.1,n.2.2.2.2.1,n.2.2.2.2.2) (s.1,s.2.1,s.2.2.1,s.2.2.2.1,s.2.2.2.2.1,s.2.2.2.2.2.1,s.2.2.2.2.2.2) d d2 d3 d4).bind fun r7=>
 some (r7.1,r7.2.1,r7.2.2.1,r7.2.2.2.1,r7.2.2.2.2))
 else(
 none))))))))
def qox:Fun:=
 ⟨207,3,1,
 ⟨r27_,v5_,a1_⟩,
 ⟨[(0,ii)],v5_,a1_⟩,
 fun x=>qmd x.1 x.2.1 x.2.2.1 x.2.2.2.1 x.2.2.2.2.1 x.2.2.2.2.2⟩
theorem qtM:FO qox:=fi [4000014] [qoo,qpE,qrx,qmU,qpF] 20 [] .nil func207 ⟨⟨qtF,quW,qwl,qsm,quX,trivial⟩,trivial⟩
def qme(n:yB0)(d:yB3)(s:yB5):Option yB8:=
 (qjb (n.1,n.2.1,n.2.2.1,n.2.2.2.1,n.2.2.2.2.1,n.2.2.2.2.2) (d.1,d.2.1,d.2.2.1,d.2.2.2)).bind fun r=>
 bif !decide (r=0) then(
 (qhK (d.1,d.2.1,d.2.2.1,d.2.2.2)).bind fun r2=>
 some (r,r2.1,r2.2.1,r2.2.2.1,r2.2.2.2))
 else(
 (qhK (d.1,d.2.1,d.2.2.1,d.2.2.2)).bind fun r3=>
 (qmd (n.1,n.2.1,n.2.2.1,n.2.2.2.1,n.2.2.2.2.1,n.2.2.2.2.2) (s.1,s.2.1,s.2.2.1,s.2.2.2.1,s.2.2.2.2.1,s.2.2.2.2.2.1,s.2.2.2.2.2.2) r3.1 r3.2.1 r3.2.2.1 r3.2.2.2).bind fun r4=>
 bif !decide (r4.1=0) then(
 (qhK (d.1,d.2.1,d.2.2.1,d.2.2.2)).bind fun r5=>
 some (r4.1,r5.1,r5.2.1,r5.2.2.1,r5.2.2.2))
 else(
 some (0,r4.2.1,r4.2.2.1,r4.2.2.2.1,r4.2.2.2.2)))
def qoy:Fun:=
 ⟨176,3,2,
 ⟨r26_,[],[]⟩,
 ⟨[(0,.agg [.own 0,.own 1,.own 2,.own 3]),(1,ii)],[],a56_⟩,
 fun x=>qme x.1 x.2.1 x.2.2⟩
theorem qtN:FO qoy:=fi [] [qjZ,qlo,qox] 30 [] .nil func176 ⟨⟨qon,qpB,qtM,trivial⟩,trivial⟩
def qgg(n:yB0)(r:yB11)(c:Int)(c2:yB4)(c3:List Int)(c4:List Int)(c5:List Bool)(c6:List yB2)(c7:List yB1):Option (Int×Int×yB4×List Int×List Int×List Bool×(List yB2)×List yB1):=
 Option.bind (α:=yB14) (
 bif decide (0<(r.2.1.length:Int)) then(
 some (true,c2,c3,c4,c5,c6,c7))
 else(
 some ((!(decide (r.2.2.2.1=[])&&(decide (r.2.2.2.2.1=0)&&decide (r.2.2.2.2.2=0)))),c2,c3,c4,c5,c6,c7))) fun s=>
 bif s.1 then(
 some (28,c,s.2.1,s.2.2.1,s.2.2.2.1,s.2.2.2.2.1,s.2.2.2.2.2.1,s.2.2.2.2.2.2))
 else(
 (qme (n.1,n.2.1,n.2.2.1,n.2.2.2.1,n.2.2.2.2.1,n.2.2.2.2.2) (s.2.1,s.2.2.1,s.2.2.2.1,s.2.2.2.2.1) (r.2.2.1.1,r.2.2.1.2.1,r.2.2.1.2.2.1,r.2.2.1.2.2.2.1,r.2.2.1.2.2.2.2.1,r.2.2.1.2.2.2.2.2.1,r.2.2.1.2.2.2.2.2.2)).bind fun r2=>
 some (r2.1,c,r2.2.1,r2.2.2.1,r2.2.2.2.1,r2.2.2.2.2,s.2.2.2.2.2.1,s.2.2.2.2.2.2))
def qjc:Fun:=
 ⟨124,3,1,
 ⟨r19_,v61_,a8_⟩,
 ⟨[(0,ii)],v58_,a31_⟩,
 fun x=>qgg x.1 x.2.1 x.2.2.1 x.2.2.2.1 x.2.2.2.2.1 x.2.2.2.2.2.1 x.2.2.2.2.2.2.1 x.2.2.2.2.2.2.2.1 x.2.2.2.2.2.2.2.2⟩
theorem qo4:FO qjc:=fi [] [qoy] 35 [] ((nn (mm (mm (.mk [.join [⟨.n,⟨[(1,pt 0 0),(3,pt 64 0),(5,pt 96 0),(18,bb)],[(0,44,[.own 1,.own 2,.own 3,.own 4,.own 5,.own 6,.keep]),(64,33,kp 6),(96,61,kp 12)],a8_⟩⟩]] none .nil .nil) .nil) .nil))) func124 ⟨⟨qtN,trivial⟩,trivial⟩
def qcn(n:Int):Option (Bool):=
 bif decide (0<=n) then(
 some (decide (n<=1099511627776)))
 else(
 some false)
def qfy:Fun:=
 ⟨141,1,1,
 ⟨[(0,ii)],[],[]⟩,
 ⟨[(0,bb)],[],[]⟩,
 fun x=>qcn x⟩
theorem qio:FO qfy:=fi [] [] 9 [] .nil func141 ⟨trivial,trivial⟩
def qdE(n:Int):Option (Bool):=
 bif decide ((-1099511627776)<=n) then(
 some (decide (n<=1099511627776)))
 else(
 some false)
def qfz:Fun:=
 ⟨142,1,1,
 ⟨[(0,ii)],[],[]⟩,
 ⟨[(0,bb)],[],[]⟩,
 fun x=>qdE x⟩
theorem qip:FO qfz:=fi [] [] 9 [] .nil func142 ⟨trivial,trivial⟩
def qcA(a:yB1):Option (Bool):=
 (qcn a.2.1).bind fun r=>
 bif r then(
 (qcn a.2.2.1).bind fun r2=>
 bif r2 then(
 (qcn a.2.2.2.1).bind fun r3=>
 bif r3 then(
 (qdE a.2.2.2.2).bind fun r4=>
 some r4)
 else(
 some false))
 else(
 some false))
 else(
 some false)
def qgO:Fun:=
 ⟨83,1,1,
 ⟨[(0,dd tT2)],[],[]⟩,
 ⟨[(0,bb)],[],[]⟩,
 fun x=>qcA x⟩
theorem qkw:FO qgO:=fi [] [qfy,qfz] 21 [] .nil func83 ⟨⟨qio,qip,trivial⟩,trivial⟩
def qdg(l:List yB1)(v:Int):Option (Int⊕(Unit⊕Bool)):=
 bif decide (v<(l.length:Int)) then(
 gd (inB v l.length)<|
 Option.bind (α:=Bool) (
 (qcA ((l.getD v.toNat ([],0,0,0,0)).1,((l.getD v.toNat ([],0,0,0,0)).2).1,(((l.getD v.toNat ([],0,0,0,0)).2).2).1,((((l.getD v.toNat ([],0,0,0,0)).2).2).2).1,((((l.getD v.toNat ([],0,0,0,0)).2).2).2).2)).bind fun r=>
 bif !r then(
 some true)
 else(
 (qcR ((l.getD v.toNat ([],0,0,0,0)).1)).bind fun r2=>
 bif !r2 then(
 some true)
 else(
 bif decide (0<v) then(
 gd (inB (wi64 (v-1)) l.length)<|
 some (Op.bytesLess ((l.getD v.toNat ([],(0,(0,(0,0))))).1) ((l.getD (wi64 (v-1)).toNat ([],(0,(0,(0,0))))).1) || decide ((l.getD v.toNat ([],(0,(0,(0,0))))).1=(l.getD (wi64 (v-1)).toNat ([],(0,(0,(0,0))))).1)))
 else(
 some false)))) fun s=>
 bif s then(
 some (.inr (.inr false)))
 else(
 some (.inl (wi64 (v+1)))))
 else(
 some (.inr (.inl ())))
def qdV(l:List yB1):Option (Bool):=
 (iter (fun x=>qdg l x) 0).bind fun s2=>
 s2.elim (fun s3=>
 some (decide ((l.length:Int)<=64)))
 (fun s4=>
 some s4)
def qeP:Fun:=
 ⟨33,1,1,
 ⟨[(0,dd (.sl tT2))],[],[]⟩,
 ⟨[(0,bb)],[],[]⟩,
 fun x=>qdV x⟩
theorem qgP:FO qeP:=fi [] [qgO,qg4] 40 [] ((nn (mm (nn (mm (.mk [] (some (⟨[(0,kk),(5,kk),(6,kk),(7,ii)],[],[]⟩,[⟨.x 0,⟨[(0,kk)],[],[]⟩⟩,⟨.r,⟨[(2,bb)],[],[]⟩⟩])) (nn (nn (mm (mm (nn (mm (.mk [.join [⟨.n,⟨[(0,kk),(5,kk),(6,kk),(7,kk),(35,bb)],[],[]⟩⟩]] none .nil .nil) .nil)) .nil) .nil))) .nil) .nil)) .nil))) func33 ⟨⟨qkw,qjR,trivial⟩,trivial⟩
def qeq(e:List UInt8×Int×Int):Option (Bool):=
 Option.bind (α:=Bool) (
 bif decide (e.2.1=1) then(
 some (decide (e.2.1=1)))
 else(
 Option.bind (α:=Bool) (
 bif decide (e.2.1=2) then(
 some (decide (e.2.1=2)))
 else(
 some (decide (e.2.1=3)))) fun s=>
 some s)) fun s2=>
 bif s2 then(
 (qcn e.2.2).bind fun r=>
 bif r then(
 (qcR e.1).bind fun r2=>
 some r2)
 else(
 some false))
 else(
 bif decide (e.2.1=4) then(
 (qdE e.2.2).bind fun r3=>
 bif r3 then(
 (qcR e.1).bind fun r4=>
 some r4)
 else(
 some false))
 else(
 some false))
def qjd:Fun:=
 ⟨208,1,1,
 ⟨[(0,dd (.pair (.str) tT7))],[],[]⟩,
 ⟨[(0,bb)],[],[]⟩,
 fun x=>qeq x⟩
theorem qo5:FO qjd:=fi [] [qfy,qg4,qfz] 27 [] ((nn (mm (nn (mm (mm (nn (.mk [.join [⟨.n,⟨r84_,v103_,[]⟩⟩]] none .nil (nn (.mk [.join [⟨.n,⟨r84_,v103_,[]⟩⟩]] none .nil .nil)))) .nil) .nil)) .nil))) func208 ⟨⟨qio,qjR,qip,trivial⟩,trivial⟩
def qaw(x:List yB1)(target:List UInt8)(cmp:yB1×List UInt8×Unit->Option Int)(i:Int)(j:Int):Option ((Int×Int)⊕Int):=
 bif decide (i<j) then(
 gd (inB (wi64 (Int.fdiv (wu64 (wi64 (i+j))) (2^shAmt .u64 1))) x.length)<|
 (cmp (x.getD (wi64 (Int.fdiv (wu64 (wi64 (i+j))) (2^shAmt .u64 1))).toNat ([],0,0,0,0),target,())).bind fun r=>
 bif decide (r<0) then(
 some (.inl (wi64 ((wi64 (Int.fdiv (wu64 (wi64 (i+j))) (2^shAmt .u64 1)))+1),j)))
 else(
 some (.inl (i,wi64 (Int.fdiv (wu64 (wi64 (i+j))) (2^shAmt .u64 1))))))
 else(
 some (.inr i))
def qaB(x:List yB1)(target:List UInt8)(cmp:yB1×List UInt8×Unit->Option Int):Option (Int×Bool):=
 (iter (fun x2=>qaw x target cmp x2.1 x2.2) (0,(x.length:Int))).bind fun s=>
 bif decide (s<(x.length:Int)) then(
 gd (inB s x.length)<|
 (cmp (x.getD s.toNat ([],0,0,0,0),target,())).bind fun r2=>
 some (s,decide (r2=0)))
 else(
 some (s,false))
def qaV:Fun:=
 ⟨222,3,2,
 ⟨[(0,dd (.sl tT2)),(1,ss),(2,.one (.fn [.pair (.str) (.pair I6 (.pair I6 tT7)),.str] I6))],[],[]⟩,
 ⟨[(0,ii),(1,bb)],[],[]⟩,
 fun x=>qaB x.1 x.2.1 x.2.2⟩
theorem qbO:FO qaV:=fi [] [] 49 [] ((nn (nn (nn (mm (mm (.mk [] (some (⟨r122_,[],[]⟩,[⟨.x 0,⟨[(0,kk),(1,kk),(2,kk),(8,kk),(9,ii)],[],[]⟩⟩])) .nil .nil) .nil) .nil))))) func222 ⟨trivial,trivial⟩
def qcV(a:List UInt8)(b:List UInt8):Option (Int):=
 (qCr a b).bind fun r=>
 some r
def qcB:Fun:=
 ⟨231,2,1,
 ⟨[(0,ss),(1,ss)],[],[]⟩,
 ⟨[(0,ii)],[],[]⟩,
 fun x=>qcV x.1 x.2⟩
theorem qfA:FO qcB:=fi [] [] 8 [xt239] .nil func231 ⟨trivial,⟨xk239,trivial⟩⟩
def qlz(a:List UInt8)(b:List UInt8):Option (Int):=
 (qcV a b).bind fun r=>
 some r
def qiq:Fun:=
 ⟨224,2,1,
 ⟨[(0,ss),(1,ss)],[],[]⟩,
 ⟨[(0,ii)],[],[]⟩,
 fun x=>qlz x.1 x.2⟩
theorem qoz:FO qiq:=fi [] [qcB] 8 [] .nil func224 ⟨⟨qfA,trivial⟩,trivial⟩
def qer(a:yB1)(s:List UInt8):Option (Int):=
 (qlz a.1 s).bind fun r=>
 some r
def qje:Fun:=
 ⟨223,2,1,
 ⟨[(0,dd tT2),(1,ss)],[],[]⟩,
 ⟨[(0,ii)],[],[]⟩,
 fun x=>qer x.1 x.2⟩
theorem qo6:FO qje:=fi [] [qiq] 9 [] .nil func223 ⟨⟨qoz,trivial⟩,trivial⟩
def qir(l:List yB1)(shipper:List UInt8):Option (Int×Bool):=
 (qaB l shipper (fun h=>(qer h.1 h.2.1).bind fun y=>some y)).bind fun r=>
 some (r.1,r.2)
def qlA:Fun:=
 ⟨209,2,2,
 ⟨[(0,dd (.sl tT2)),(1,ss)],[],[]⟩,
 ⟨[(0,ii),(1,bb)],[],[]⟩,
 fun x=>qir x.1 x.2⟩
theorem qrA:FO qlA:=fi [] [qaV,qje] 11 [] .nil func209 ⟨⟨qbO,qo6,trivial⟩,trivial⟩
def qdl(a:yB1)(e:List UInt8×Int×Int):Option yB1:=
 Option.bind (α:=Int×Int×Int×Int) (
 bif decide (e.2.1=1) then(
 some (wi64 (a.2.1+e.2.2),a.2.2.1,a.2.2.2.1,a.2.2.2.2))
 else(
 Option.bind (α:=Int×Int×Int) (
 bif decide (e.2.1=2) then(
 some (wi64 (a.2.2.1+e.2.2),a.2.2.2.1,a.2.2.2.2))
 else(
 Option.bind (α:=Int×Int) (
 bif decide (e.2.1=3) then(
 some (wi64 (a.2.2.2.1+e.2.2),a.2.2.2.2))
 else(
 Option.bind (α:=Int) (
 bif decide (e.2.1=4) then(
 some (wi64 (a.2.2.2.2+e.2.2)))
 else(
 some a.2.2.2.2)) fun s=>
 some (a.2.2.2.1,s))) fun s2=>
 some (a.2.2.1,s2.1,s2.2))) fun s3=>
 some (a.2.1,s3.1,s3.2.1,s3.2.2))) fun s4=>
 some (a.1,s4.1,s4.2.1,s4.2.2.1,s4.2.2.2)
def qjf:Fun:=
 ⟨210,2,1,
 ⟨[(0,dd tT2),(1,dd (.pair (.str) tT7))],[],[]⟩,
 ⟨[(0,dd tT2)],[],[]⟩,
 fun x=>qdl x.1 x.2⟩
theorem qo7:FO qjf:=fi [] [] 40 [] ((nn (mm (nn (mm (nn (.mk [.join [⟨.n,⟨r78_,[(48,110,[.keep,.data I6,.data I6,.data I6,.data I6]),(80,110,kp 5)],[]⟩⟩]] none .nil (nn (.mk [.join [⟨.n,⟨r78_,[(48,110,[.keep,.keep,.data I6,.data I6,.data I6]),(80,110,kp 5)],[]⟩⟩]] none .nil (nn (.mk [.join [⟨.n,⟨r78_,[(48,110,[.keep,.keep,.keep,.data I6,.data I6]),(80,110,kp 5)],[]⟩⟩]] none .nil (nn (.mk [.join [⟨.n,⟨r78_,[(48,110,[.keep,.keep,.keep,.keep,.data I6]),(80,110,kp 5)],[]⟩⟩]] none .nil .nil)))))))) .nil)) .nil))) func210 ⟨trivial,trivial⟩
def qgD(l:List yB1)(e:List UInt8×Int×Int):Option (Int×List yB1):=
 (qal l).bind fun r=>
 Option.bind (α:=Bool×List yB1) (
 (qdV l).bind fun r2=>
 bif !r2 then(
 some (true,r))
 else(
 (qeq (e.1,e.2.1,e.2.2)).bind fun r3=>
 some ((!r3),r))) fun s=>
 bif s.1 then(
 some (27,s.2))
 else(
 (qir l e.1).bind fun r4=>
 Option.bind (α:=List UInt8×Int×Int×Int×Int×List yB1) (
 bif r4.2 then(
 gd (inB r4.1 l.length)<|
 some ((l.getD r4.1.toNat ([],(0,(0,(0,0))))).1,((l.getD r4.1.toNat ([],(0,(0,(0,0))))).2).1,(((l.getD r4.1.toNat ([],(0,(0,(0,0))))).2).2).1,((((l.getD r4.1.toNat ([],(0,(0,(0,0))))).2).2).2).1,((((l.getD r4.1.toNat ([],(0,(0,(0,0))))).2).2).2).2,s.2))
 else(
 some (e.1,0,0,0,0,s.2))) fun s2=>
 (qdl (s2.1,s2.2.1,s2.2.2.1,s2.2.2.2.1,s2.2.2.2.2.1) (e.1,e.2.1,e.2.2)).bind fun r5=>
 Option.bind (α:=Bool×List yB1) (
 (qcA (r5.1,r5.2.1,r5.2.2.1,r5.2.2.2.1,r5.2.2.2.2)).bind fun r6=>
 bif !r6 then(
 some (true,s2.2.2.2.2.2))
 else(
 bif !r4.2 then(
 some (decide ((l.length:Int)=64),s2.2.2.2.2.2))
 else(
 some (false,s2.2.2.2.2.2)))) fun s3=>
 bif s3.1 then(
 some (4,s3.2))
 else(
 bif r4.2 then(
 gd (inB r4.1 s3.2.length)<|
 some (0,s3.2.set r4.1.toNat (r5.1,(r5.2.1,(r5.2.2.1,(r5.2.2.2.1,r5.2.2.2.2))))))
 else(
 gd (decide (r4.1=r4.1)&&cutG none (some (.i64,r4.1)) s3.2.length)<|
 gd (fits ((s3.2.take r4.1.toNat).length+1) 48)<|
 gd (cutG (some (.i64,r4.1)) none l.length)<|
 gd (fits (((s3.2.take r4.1.toNat)++[(r5.1,r5.2.1,r5.2.2.1,r5.2.2.2.1,r5.2.2.2.2)]).length+(l.drop r4.1.toNat).length) 48)<|
 some (0,((s3.2.take r4.1.toNat)++[(r5.1,(r5.2.1,(r5.2.2.1,(r5.2.2.2.1,r5.2.2.2.2))))])++(l.drop r4.1.toNat)))))
def qlB:Fun:=
 ⟨177,2,2,
 ⟨[(0,dd (.sl tT2)),(1,dd (.pair (.str) tT7))],[],[]⟩,
 ⟨r131_,[],[(0,.arr 110 tT2)]⟩,
 fun x=>qgD x.1 x.2⟩
theorem qrB:FO qlB:=fi [61] [qa9,qeP,qjd,qlA,qjf,qgO] 69 [] ((nn (nn (mm (mm (.mk [.join [⟨.n,⟨[(0,kk),(3,pt 64 0),(6,ow 192),(19,bb)],v52_,[(192,.arr 110 tT2)]⟩⟩]] none .nil .nil) .nil) (nn (nn (mm (nn (.mk [.join [⟨.n,⟨[(0,kk),(3,pt 64 0),(6,ow 192),(7,kk),(8,kk),(9,pt 160 0)],[(64,59,[.keep,.keep,.keep]),(160,110,[.data (.str),.data I6,.data I6,.data I6,.data I6])],[(192,.arr 110 tT2)]⟩⟩]] none .nil .nil)) (mm (nn (mm (.mk [.join [⟨.n,⟨[(0,kk),(6,ow 192),(7,kk),(8,kk),(9,pt 160 0),(50,bb)],[(160,110,kp 5)],[(192,.arr 110 tT2)]⟩⟩]] none .nil .nil) .nil)) (nn (mm (.mk [.fz [6]] none .nil .nil) .nil)))))))))) func177 ⟨⟨qbM,qgP,qo5,qrA,qo7,qkw,trivial⟩,trivial⟩
def qj5(v:yB0)(r:yB11)(c:Int)(c2:yB4)(c3:List Int)(c4:List Int)(c5:List Bool)(c6:List yB2)(c7:List yB1):Option (Int×Int×yB4×List Int×List Int×List Bool×(List yB2)×List yB1):=
 Option.bind (α:=yB14) (
 bif decide (0<(r.2.1.length:Int)) then(
 some (true,c2,c3,c4,c5,c6,c7))
 else(
 (qfu (r.2.2.1.1,r.2.2.1.2.1,r.2.2.1.2.2.1,r.2.2.1.2.2.2.1,r.2.2.1.2.2.2.2.1,r.2.2.1.2.2.2.2.2.1,r.2.2.1.2.2.2.2.2.2)).bind fun r2=>
 some ((!r2),c2,c3,c4,c5,c6,c7))) fun s=>
 bif s.1 then(
 some (28,c,s.2.1,s.2.2.1,s.2.2.2.1,s.2.2.2.2.1,s.2.2.2.2.2.1,s.2.2.2.2.2.2))
 else(
 (qgD s.2.2.2.2.2.2 (r.2.2.2.1,r.2.2.2.2.1,r.2.2.2.2.2)).bind fun r3=>
 some (r3.1,c,s.2.1,s.2.2.1,s.2.2.2.1,s.2.2.2.2.1,s.2.2.2.2.2.1,r3.2))
def qmW:Fun:=
 ⟨125,3,1,
 ⟨r19_,v61_,a8_⟩,
 ⟨[(0,ii)],v58_,a31_⟩,
 fun x=>qj5 x.1 x.2.1 x.2.2.1 x.2.2.2.1 x.2.2.2.2.1 x.2.2.2.2.2.1 x.2.2.2.2.2.2.1 x.2.2.2.2.2.2.2.1 x.2.2.2.2.2.2.2.2⟩
theorem qso:FO qmW:=fi [] [qgN,qlB] 34 [] ((nn (mm (mm (.mk [.join [⟨.n,⟨[(1,pt 0 0),(5,pt 96 0),(18,bb)],v76_,a8_⟩⟩]] none .nil .nil) .nil) .nil))) func125 ⟨⟨qkq,qrB,trivial⟩,trivial⟩
def qe8(n:yB0)(c:yB9)(r:yB11):Option (yB9×Int):=
 bif decide (c.2.2.2=1000) then(
 (qc2 ((c.1.1,c.1.2.1,c.1.2.2.1,c.1.2.2.2),c.2.1,c.2.2.1,c.2.2.2)).bind fun r2=>
 some (((r2.2.1,(r2.2.2.1,(r2.2.2.2.1,r2.2.2.2.2.1))),(r2.2.2.2.2.2.1,(r2.2.2.2.2.2.2,r2.1))),4))
 else(
 bif !((mget keyI (mput keyI (mput keyI (mput keyI [] 1 1) 2 2) 3 3) r.1).isSome) then(
 (qc2 ((c.1.1,c.1.2.1,c.1.2.2.1,c.1.2.2.2),c.2.1,c.2.2.1,c.2.2.2)).bind fun r3=>
 some (((r3.2.1,(r3.2.2.1,(r3.2.2.2.1,r3.2.2.2.2.1))),(r3.2.2.2.2.2.1,(r3.2.2.2.2.2.2,r3.1))),28))
 else(
 (qc2 ((c.1.1,c.1.2.1,c.1.2.2.1,c.1.2.2.2),c.2.1,c.2.2.1,c.2.2.2)).bind fun r4=>
 bif decide ((mget keyI (mput keyI (mput keyI (mput keyI [] 1 1) 2 2) 3 3) r.1).getD 0=1) then(
 (qg7 (n.1,n.2.1,n.2.2.1,n.2.2.2.1,n.2.2.2.2.1,n.2.2.2.2.2) (r.1,r.2.1,(r.2.2.1.1,r.2.2.1.2.1,r.2.2.1.2.2.1,r.2.2.1.2.2.2.1,r.2.2.1.2.2.2.2.1,r.2.2.1.2.2.2.2.2.1,r.2.2.1.2.2.2.2.2.2),r.2.2.2.1,r.2.2.2.2.1,r.2.2.2.2.2) r4.1 r4.2.1 r4.2.2.1 r4.2.2.2.1 r4.2.2.2.2.1 r4.2.2.2.2.2.1 r4.2.2.2.2.2.2).bind fun r5=>
 bif !decide (r5.1=0) then(
 (qc2 ((c.1.1,c.1.2.1,c.1.2.2.1,c.1.2.2.2),c.2.1,c.2.2.1,c.2.2.2)).bind fun r6=>
 some (((r6.2.1,(r6.2.2.1,(r6.2.2.2.1,r6.2.2.2.2.1))),(r6.2.2.2.2.2.1,(r6.2.2.2.2.2.2,r6.1))),r5.1))
 else(
 some (((r5.2.2.1,(r5.2.2.2.1,(r5.2.2.2.2.1,r5.2.2.2.2.2.1))),(r5.2.2.2.2.2.2.1,(r5.2.2.2.2.2.2.2,wi64 (r5.2.1+1)))),0)))
 else(
 bif decide ((mget keyI (mput keyI (mput keyI (mput keyI [] 1 1) 2 2) 3 3) r.1).getD 0=2) then(
 (qgg (n.1,n.2.1,n.2.2.1,n.2.2.2.1,n.2.2.2.2.1,n.2.2.2.2.2) (r.1,r.2.1,(r.2.2.1.1,r.2.2.1.2.1,r.2.2.1.2.2.1,r.2.2.1.2.2.2.1,r.2.2.1.2.2.2.2.1,r.2.2.1.2.2.2.2.2.1,r.2.2.1.2.2.2.2.2.2),r.2.2.2.1,r.2.2.2.2.1,r.2.2.2.2.2) r4.1 r4.2.1 r4.2.2.1 r4.2.2.2.1 r4.2.2.2.2.1 r4.2.2.2.2.2.1 r4.2.2.2.2.2.2).bind fun r7=>
 bif !decide (r7.1=0) then(
 (qc2 ((c.1.1,c.1.2.1,c.1.2.2.1,c.1.2.2.2),c.2.1,c.2.2.1,c.2.2.2)).bind fun r8=>
 some (((r8.2.1,(r8.2.2.1,(r8.2.2.2.1,r8.2.2.2.2.1))),(r8.2.2.2.2.2.1,(r8.2.2.2.2.2.2,r8.1))),r7.1))
 else(
 some (((r7.2.2.1,(r7.2.2.2.1,(r7.2.2.2.2.1,r7.2.2.2.2.2.1))),(r7.2.2.2.2.2.2.1,(r7.2.2.2.2.2.2.2,wi64 (r7.2.1+1)))),0)))
 else(
 bif decide ((mget keyI (mput keyI (mput keyI (mput keyI [] 1 1) 2 2) 3 3) r.1).getD 0=3) then(
 (qj5 (n.1,n.2.1,n.2.2.1,n.2.2.2.1,n.2.2.2.2.1,n.2.2.2.2.2) (r.1,r.2.1,(r.2.2.1.1,r.2.2.1.2.1,r.2.2.1.2.2.1,r.2.2.1.2.2.2.1,r.2.2.1.2.2.2.2.1,r.2.2.1.2.2.2.2.2.1,r.2.2.1.2.2.2.2.2.2),r.2.2.2.1,r.2.2.2.2.1,r.2.2.2.2.2) r4.1 r4.2.1 r4.2.2.1 r4.2.2.2.1 r4.2.2.2.2.1 r4.2.2.2.2.2.1 r4.2.2.2.2.2.2).bind fun r9=>
 bif !decide (r9.1=0) then(
 (qc2 ((c.1.1,c.1.2.1,c.1.2.2.1,c.1.2.2.2),c.2.1,c.2.2.1,c.2.2.2)).bind fun r10=>
 some (((r10.2.1,(r10.2.2.1,(r10.2.2.2.1,r10.2.2.2.2.1))),(r10.2.2.2.2.2.1,(r10.2.2.2.2.2.2,r10.1))),r9.1))
 else(
 some (((r9.2.2.1,(r9.2.2.2.1,(r9.2.2.2.2.1,r9.2.2.2.2.2.1))),(r9.2.2.2.2.2.2.1,(r9.2.2.2.2.2.2.2,wi64 (r9.2.1+1)))),0)))
 else(
 none)))))
def qlC:Fun:=
 ⟨66,3,2,
 ⟨r18_,[],[]⟩,
 ⟨r29_,[],[]⟩,
 fun x=>qe8 x.1 x.2.1 x.2.2⟩
theorem qrC:FO qlC:=fi [4000036] [qmN,qkt,qjc,qmW] 47 [] .nil func66 ⟨⟨qsi,qpZ,qo4,qso,trivial⟩,trivial⟩
def qdW(n:yB0)(r:List Int)(r2:List Int)(r4:(List Int×List Int)×List (List Int))(v:Int)(v2:List Int)(v3:List Int)(v4:yB4)(v5:List Int)(v6:List Int)(v7:List Bool)(v8:List yB2)(v9:List yB1)(v10:Int)(c:yB4)(c2:List Int)(c3:List Int)(c4:List Bool)(c5:List yB2)(c6:List yB1)(c7:Int)(v11:List (List Int)):Option ((Int×List Int×List Int×yB4×List Int×List Int×List Bool×(List yB2)×(List yB1)×Int×yB4×List Int×List Int×List Bool×(List yB2)×(List yB1)×Int×List (List Int))⊕((List Int×List Int×yB4×List Int×List Int×List Bool×(List yB2)×(List yB1)×Int×yB4×List Int×List Int×List Bool×(List yB2)×(List yB1)×Int)⊕(Int×List Int×List Int×yB4×List Int×List Int×List Bool×(List yB2)×(List yB1)×Int))):=
 bif decide (v<(r4.2.length:Int)) then(
 gd (inB v v11.length)<|
 (qfs (v11.getD v.toNat [])).bind fun r5=>
 bif !decide (r5.2=0) then(
 some (.inr (.inr (28,r,r2,[],[],[],[],[],[],0))))
 else(
 (qe8 (n.1,n.2.1,n.2.2.1,n.2.2.2.1,n.2.2.2.2.1,n.2.2.2.2.2) ((c,c2,c3,c4),c5,c6,c7) (r5.1.1,r5.1.2.1,(r5.1.2.2.1.1,r5.1.2.2.1.2.1,r5.1.2.2.1.2.2.1,r5.1.2.2.1.2.2.2.1,r5.1.2.2.1.2.2.2.2.1,r5.1.2.2.1.2.2.2.2.2.1,r5.1.2.2.1.2.2.2.2.2.2),r5.1.2.2.2.1,r5.1.2.2.2.2.1,r5.1.2.2.2.2.2)).bind fun r6=>
 bif !decide (r6.2=0) then(
 some (.inr (.inr (28,r,r2,[],[],[],[],[],[],0))))
 else(
 some (.inl (wi64 (v+1),v2,v3,v4,v5,v6,v7,v8,v9,v10,r6.1.1.1,r6.1.1.2.1,r6.1.1.2.2.1,r6.1.1.2.2.2,r6.1.2.1,r6.1.2.2.1,r6.1.2.2.2,v11)))))
 else(
 some (.inr (.inl (v2,v3,v4,v5,v6,v7,v8,v9,v10,c,c2,c3,c4,c5,c6,c7))))
def qgh(n:yB0)(travel:Int)(f:List Int×List Int):Option ((List Int×List Int)×yB9×Int):=
 (qbi f.1).bind fun r=>
 (qbi f.2).bind fun r2=>
 (qfR (n.1,n.2.1,n.2.2.1,n.2.2.2.1,n.2.2.2.2.1,n.2.2.2.2.2) travel).bind fun r3=>
 bif !decide (r3.2=0) then(
 some ((r,r2),(([],([],([],[]))),([],([],0))),r3.2))
 else(
 (qfq (f.1,f.2)).bind fun r4=>
 (iter (fun x=>qdW n r r2 r4 x.1 x.2.1 x.2.2.1 x.2.2.2.1 x.2.2.2.2.1 x.2.2.2.2.2.1 x.2.2.2.2.2.2.1 x.2.2.2.2.2.2.2.1 x.2.2.2.2.2.2.2.2.1 x.2.2.2.2.2.2.2.2.2.1 x.2.2.2.2.2.2.2.2.2.2.1 x.2.2.2.2.2.2.2.2.2.2.2.1 x.2.2.2.2.2.2.2.2.2.2.2.2.1 x.2.2.2.2.2.2.2.2.2.2.2.2.2.1 x.2.2.2.2.2.2.2.2.2.2.2.2.2.2.1 x.2.2.2.2.2.2.2.2.2.2.2.2.2.2.2.1 x.2.2.2.2.2.2.2.2.2.2.2.2.2.2.2.2.1 x.2.2.2.2.2.2.2.2.2.2.2.2.2.2.2.2.2) (0,[],[],[],[],[],[],[],[],0,r3.1.1.1,r3.1.1.2.1,r3.1.1.2.2.1,r3.1.1.2.2.2,r3.1.2.1,r3.1.2.2.1,r3.1.2.2.2,r4.2)).bind fun s=>
 s.elim (fun s2=>
 some ((r4.1.1,r4.1.2),((s2.2.2.2.2.2.2.2.2.2.1,(s2.2.2.2.2.2.2.2.2.2.2.1,(s2.2.2.2.2.2.2.2.2.2.2.2.1,s2.2.2.2.2.2.2.2.2.2.2.2.2.1))),(s2.2.2.2.2.2.2.2.2.2.2.2.2.2.1,(s2.2.2.2.2.2.2.2.2.2.2.2.2.2.2.1,s2.2.2.2.2.2.2.2.2.2.2.2.2.2.2.2))),0))
 (fun s3=>
 some ((s3.2.1,s3.2.2.1),((s3.2.2.2.1,(s3.2.2.2.2.1,(s3.2.2.2.2.2.1,s3.2.2.2.2.2.2.1))),(s3.2.2.2.2.2.2.2.1,(s3.2.2.2.2.2.2.2.2.1,s3.2.2.2.2.2.2.2.2.2))),s3.1)))
def qjg:Fun:=
 ⟨30,3,3,
 ⟨[(0,dd tT0),(1,ii),(2,dd (.pair (.sl (.int .u8)) (.sl (.int .u8))))],[],[]⟩,
 ⟨r38_,[],[]⟩,
 fun x=>qgh x.1 x.2.1 x.2.2⟩
theorem qo8:FO qjg:=fi [] [qcK,qoe,qii,qkp,qlC] 70 [] ((nn (nn (nn (nn (nn (mm (nn (mm (.mk [] (some (⟨[(3,pt 64 0),(6,pt 112 0),(7,pt 128 0),(9,pt 160 0),(10,pt 176 0),(12,pt 208 0),(41,ow 624),(42,kk),(43,ii)],[(64,33,kp 6),(112,50,[.data (.sl (.int .u8)),.data (.sl (.int .u8))]),(128,44,[.data (.sl tT1),.data (.sl I6),.data (.sl I6),.data (.sl (.bool)),.data (.sl tT3),.data (.sl tT2),.data I6]),(160,50,[.keep,.keep]),(176,44,[.data (.sl tT1),.data (.sl I6),.data (.sl I6),.data (.sl (.bool)),.data (.sl tT3),.data (.sl tT2),.data I6]),(208,50,[.keep,.keep])],[(624,.arr 48 (.sl (.int .u8)))]⟩,[⟨.x 0,⟨[(6,pt 112 0),(7,pt 128 0),(10,pt 176 0),(12,pt 208 0)],[(112,50,[.data (.sl (.int .u8)),.data (.sl (.int .u8))]),(128,44,[.data (.sl tT1),.data (.sl I6),.data (.sl I6),.data (.sl (.bool)),.data (.sl tT3),.data (.sl tT2),.data I6]),(176,44,[.data (.sl tT1),.data (.sl I6),.data (.sl I6),.data (.sl (.bool)),.data (.sl tT3),.data (.sl tT2),.data I6]),(208,50,[.keep,.keep])],[]⟩⟩,⟨.r,⟨[(6,pt 112 0),(7,pt 128 0),(8,ii)],[(112,50,[.data (.sl (.int .u8)),.data (.sl (.int .u8))]),(128,44,[.data (.sl tT1),.data (.sl I6),.data (.sl I6),.data (.sl (.bool)),.data (.sl tT3),.data (.sl tT2),.data I6])],[]⟩⟩])) .nil .nil) .nil)) .nil))))))) func30 ⟨⟨qei,qtC,qof,qpW,qrC,trivial⟩,trivial⟩
def qbm(s1:yB4)(s2:yB4)(v:Int):Option (Int⊕(Unit⊕Bool)):=
 bif decide (v<(s1.length:Int)) then(
 gd (inB v s1.length)<|
 gd (inB v s2.length)<|
 bif !(decide ((s1.getD v.toNat (0,0,false,false)).1=(s2.getD v.toNat (0,0,false,false)).1)&&(decide (((s1.getD v.toNat (0,0,false,false)).2).1=((s2.getD v.toNat (0,0,false,false)).2).1)&&(((((s1.getD v.toNat (0,0,false,false)).2).2).1==(((s2.getD v.toNat (0,0,false,false)).2).2).1)&&((((s1.getD v.toNat (0,0,false,false)).2).2).2==(((s2.getD v.toNat (0,0,false,false)).2).2).2)))) then(
 some (.inr (.inr false)))
 else(
 some (.inl (wi64 (v+1)))))
 else(
 some (.inr (.inl ())))
def qa8(s1:yB4)(s2:yB4):Option (Bool):=
 bif !decide ((s1.length:Int)=(s2.length:Int)) then(
 some false)
 else(
 (iter (fun x=>qbm s1 s2 x) 0).bind fun s=>
 s.elim (fun s3=>
 some true)
 (fun s4=>
 some s4))
def qco:Fun:=
 ⟨67,2,1,
 ⟨[(0,dd (.sl tT1)),(1,dd (.sl tT1))],[],[]⟩,
 ⟨[(0,bb)],[],[]⟩,
 fun x=>qa8 x.1 x.2⟩
theorem qe1:FO qco:=fi [] [] 26 [] ((nn (nn (mm (nn (mm (.mk [] (some (⟨r68_,[],[]⟩,[⟨.x 0,⟨[],[],[]⟩⟩,⟨.r,⟨[(4,bb)],[],[]⟩⟩])) .nil .nil) .nil)) .nil)))) func67 ⟨trivial,trivial⟩
def qc5(s1:List Int)(s2:List Int)(v:Int):Option (Int⊕(Unit⊕Bool)):=
 bif decide (v<(s1.length:Int)) then(
 gd (inB v s1.length)<|
 gd (inB v s2.length)<|
 bif !decide (s1.getD v.toNat 0=s2.getD v.toNat 0) then(
 some (.inr (.inr false)))
 else(
 some (.inl (wi64 (v+1)))))
 else(
 some (.inr (.inl ())))
def qbu(s1:List Int)(s2:List Int):Option (Bool):=
 bif !decide ((s1.length:Int)=(s2.length:Int)) then(
 some false)
 else(
 (iter (fun x=>qc5 s1 s2 x) 0).bind fun s=>
 s.elim (fun s3=>
 some true)
 (fun s4=>
 some s4))
def qc6:Fun:=
 ⟨68,2,1,
 ⟨[(0,dd (.sl I6)),(1,dd (.sl I6))],[],[]⟩,
 ⟨[(0,bb)],[],[]⟩,
 fun x=>qbu x.1 x.2⟩
theorem qfB:FO qc6:=fi [] [] 26 [] ((nn (nn (mm (nn (mm (.mk [] (some (⟨r68_,[],[]⟩,[⟨.x 0,⟨[],[],[]⟩⟩,⟨.r,⟨[(4,bb)],[],[]⟩⟩])) .nil .nil) .nil)) .nil)))) func68 ⟨trivial,trivial⟩
def qcN(s1:List Bool)(s2:List Bool)(v:Int):Option (Int⊕(Unit⊕Bool)):=
 bif decide (v<(s1.length:Int)) then(
 gd (inB v s1.length)<|
 gd (inB v s2.length)<|
 bif !(s1.getD v.toNat false==s2.getD v.toNat false) then(
 some (.inr (.inr false)))
 else(
 some (.inl (wi64 (v+1)))))
 else(
 some (.inr (.inl ())))
def qcr(s1:List Bool)(s2:List Bool):Option (Bool):=
 bif !decide ((s1.length:Int)=(s2.length:Int)) then(
 some false)
 else(
 (iter (fun x=>qcN s1 s2 x) 0).bind fun s=>
 s.elim (fun s3=>
 some true)
 (fun s4=>
 some s4))
def qes:Fun:=
 ⟨69,2,1,
 ⟨[(0,dd (.sl (.bool))),(1,dd (.sl (.bool)))],[],[]⟩,
 ⟨[(0,bb)],[],[]⟩,
 fun x=>qcr x.1 x.2⟩
theorem qiK:FO qes:=fi [] [] 26 [] ((nn (nn (mm (nn (mm (.mk [] (some (⟨r68_,[],[]⟩,[⟨.x 0,⟨[],[],[]⟩⟩,⟨.r,⟨[(4,bb)],[],[]⟩⟩])) .nil .nil) .nil)) .nil)))) func69 ⟨trivial,trivial⟩
def qai(s1:List yB2)(s2:List yB2)(eq:yB2×yB2×Unit->Option Bool)(v:Int):Option (Int⊕(Unit⊕Bool)):=
 bif decide (v<(s1.length:Int)) then(
 gd (inB v s1.length)<|
 gd (inB v s2.length)<|
 (eq (((s1.getD v.toNat (0,0,0,0,0,[])).1,((s1.getD v.toNat (0,0,0,0,0,[])).2).1,(((s1.getD v.toNat (0,0,0,0,0,[])).2).2).1,((((s1.getD v.toNat (0,0,0,0,0,[])).2).2).2).1,(((((s1.getD v.toNat (0,0,0,0,0,[])).2).2).2).2).1,(((((s1.getD v.toNat (0,0,0,0,0,[])).2).2).2).2).2),((s2.getD v.toNat (0,0,0,0,0,[])).1,((s2.getD v.toNat (0,0,0,0,0,[])).2).1,(((s2.getD v.toNat (0,0,0,0,0,[])).2).2).1,((((s2.getD v.toNat (0,0,0,0,0,[])).2).2).2).1,(((((s2.getD v.toNat (0,0,0,0,0,[])).2).2).2).2).1,(((((s2.getD v.toNat (0,0,0,0,0,[])).2).2).2).2).2),())).bind fun r=>
 bif !r then(
 some (.inr (.inr false)))
 else(
 some (.inl (wi64 (v+1)))))
 else(
 some (.inr (.inl ())))
def qac(s1:List yB2)(s2:List yB2)(eq:yB2×yB2×Unit->Option Bool):Option (Bool):=
 bif !decide ((s1.length:Int)=(s2.length:Int)) then(
 some false)
 else(
 (iter (fun x=>qai s1 s2 eq x) 0).bind fun s=>
 s.elim (fun s3=>
 some true)
 (fun s4=>
 some s4))
def qaC:Fun:=
 ⟨70,3,1,
 ⟨[(0,dd (.sl tT3)),(1,dd (.sl tT3)),(2,.one (.fn [.pair I6 (.pair I6 (.pair I6 (.pair I6 (.pair I6 (.sl I6))))),.pair I6 (.pair I6 (.pair I6 (.pair I6 (.pair I6 (.sl I6)))))] (.bool)))],[],[]⟩,
 ⟨[(0,bb)],[],[]⟩,
 fun x=>qac x.1 x.2.1 x.2.2⟩
theorem qbe:FO qaC:=fi [] [] 32 [] ((nn (nn (mm (nn (mm (.mk [] (some (⟨[(1,kk),(2,kk),(15,kk),(16,kk),(17,ii)],[],[]⟩,[⟨.x 0,⟨[],[],[]⟩⟩,⟨.r,⟨[(6,bb)],[],[]⟩⟩])) .nil .nil) .nil)) .nil)))) func70 ⟨trivial,trivial⟩
def qcU(a:yB2)(b:yB2):Option (Bool):=
 (qbu a.2.2.2.2.2 b.2.2.2.2.2).bind fun r=>
 bif r then(
 bif decide (a.1=b.1) then(
 bif decide (a.2.1=b.2.1) then(
 bif decide (a.2.2.1=b.2.2.1) then(
 bif decide (a.2.2.2.1=b.2.2.2.1) then(
 some (decide (a.2.2.2.2.1=b.2.2.2.2.1)))
 else(
 some false))
 else(
 some false))
 else(
 some false))
 else(
 some false))
 else(
 some false)
def qis:Fun:=
 ⟨71,2,1,
 ⟨[(0,dd tT3),(1,dd tT3)],[],[]⟩,
 ⟨[(0,bb)],[],[]⟩,
 fun x=>qcU x.1 x.2⟩
theorem qoA:FO qis:=fi [] [qc6] 47 [] .nil func71 ⟨⟨qfB,trivial⟩,trivial⟩
def qba(s1:List yB1)(s2:List yB1)(v:Int):Option (Int⊕(Unit⊕Bool)):=
 bif decide (v<(s1.length:Int)) then(
 gd (inB v s1.length)<|
 gd (inB v s2.length)<|
 bif !(decide ((s1.getD v.toNat ([],0,0,0,0)).1=(s2.getD v.toNat ([],0,0,0,0)).1)&&(decide (((s1.getD v.toNat ([],0,0,0,0)).2).1=((s2.getD v.toNat ([],0,0,0,0)).2).1)&&(decide ((((s1.getD v.toNat ([],0,0,0,0)).2).2).1=(((s2.getD v.toNat ([],0,0,0,0)).2).2).1)&&(decide (((((s1.getD v.toNat ([],0,0,0,0)).2).2).2).1=((((s2.getD v.toNat ([],0,0,0,0)).2).2).2).1)&&decide (((((s1.getD v.toNat ([],0,0,0,0)).2).2).2).2=((((s2.getD v.toNat ([],0,0,0,0)).2).2).2).2))))) then(
 some (.inr (.inr false)))
 else(
 some (.inl (wi64 (v+1)))))
 else(
 some (.inr (.inl ())))
def qaT(s1:List yB1)(s2:List yB1):Option (Bool):=
 bif !decide ((s1.length:Int)=(s2.length:Int)) then(
 some false)
 else(
 (iter (fun x=>qba s1 s2 x) 0).bind fun s=>
 s.elim (fun s3=>
 some true)
 (fun s4=>
 some s4))
def qbP:Fun:=
 ⟨72,2,1,
 ⟨[(0,dd (.sl tT2)),(1,dd (.sl tT2))],[],[]⟩,
 ⟨[(0,bb)],[],[]⟩,
 fun x=>qaT x.1 x.2⟩
theorem qdF:FO qbP:=fi [] [] 26 [] ((nn (nn (mm (nn (mm (.mk [] (some (⟨r68_,[],[]⟩,[⟨.x 0,⟨[],[],[]⟩⟩,⟨.r,⟨[(4,bb)],[],[]⟩⟩])) .nil .nil) .nil)) .nil)))) func72 ⟨trivial,trivial⟩
def qjh(a:yB9)(b:yB9):Option (Bool):=
 bif decide (a.2.2.2=b.2.2.2) then(
 (qa8 a.1.1 b.1.1).bind fun r=>
 bif r then(
 (qbu a.1.2.1 b.1.2.1).bind fun r2=>
 bif r2 then(
 (qbu a.1.2.2.1 b.1.2.2.1).bind fun r3=>
 bif r3 then(
 (qcr a.1.2.2.2 b.1.2.2.2).bind fun r4=>
 bif r4 then(
 (qac a.2.1 b.2.1 (fun h=>(qcU h.1 h.2.1).bind fun y=>some y)).bind fun r5=>
 bif r5 then(
 (qaT a.2.2.1 b.2.2.1).bind fun r6=>
 some r6)
 else(
 some false))
 else(
 some false))
 else(
 some false))
 else(
 some false))
 else(
 some false))
 else(
 some false)
def qoB:Fun:=
 ⟨31,2,1,
 ⟨[(0,dd (.pair (.pair (.sl tT1) tT6) (.pair (.sl tT3) (.pair (.sl tT2) I6)))),(1,dd (.pair (.pair (.sl tT1) tT6) (.pair (.sl tT3) (.pair (.sl tT2) I6))))],[],[]⟩,
 ⟨[(0,bb)],[],[]⟩,
 fun x=>qjh x.1 x.2⟩
theorem qtO:FO qoB:=fi [] [qco,qc6,qes,qaC,qis,qbP] 62 [] .nil func31 ⟨⟨qe1,qfB,qiK,qbe,qoA,qdF,trivial⟩,trivial⟩
def qfC(n:yB0)(travel:Int)(f:List Int×List Int)(c:yB9):Option (Bool×Int):=
 (qgh (n.1,n.2.1,n.2.2.1,n.2.2.2.1,n.2.2.2.2.1,n.2.2.2.2.2) travel (f.1,f.2)).bind fun r=>
 bif !decide (r.2.2=0) then(
 some (false,r.2.2))
 else(
 (qjh ((r.2.1.1.1,r.2.1.1.2.1,r.2.1.1.2.2.1,r.2.1.1.2.2.2),r.2.1.2.1,r.2.1.2.2.1,r.2.1.2.2.2) ((c.1.1,c.1.2.1,c.1.2.2.1,c.1.2.2.2),c.2.1,c.2.2.1,c.2.2.2)).bind fun r2=>
 some (r2,0))
def qkx:Fun:=
 ⟨11,4,2,
 ⟨[(0,dd tT0),(1,ii),(2,dd (.pair (.sl (.int .u8)) (.sl (.int .u8)))),(3,dd (.pair (.pair (.sl tT1) tT6) (.pair (.sl tT3) (.pair (.sl tT2) I6))))],[],[]⟩,
 ⟨[(0,bb),(1,ii)],[],[]⟩,
 fun x=>qfC x.1 x.2.1 x.2.2.1 x.2.2.2⟩
theorem qp2:FO qkx:=fi [] [qjg,qoB] 27 [] .nil func11 ⟨⟨qo8,qtO,trivial⟩,trivial⟩
def qet(c:yB9)(v:Int):Option (Int⊕(Unit⊕Int)):=
 bif decide (v<(c.2.1.length:Int)) then(
 gd (inB v c.2.1.length)<|
 Option.bind (α:=Bool) (
 (qdk ((c.2.1.getD v.toNat (0,0,0,0,0,[])).1,((c.2.1.getD v.toNat (0,0,0,0,0,[])).2).1,(((c.2.1.getD v.toNat (0,0,0,0,0,[])).2).2).1,((((c.2.1.getD v.toNat (0,0,0,0,0,[])).2).2).2).1,(((((c.2.1.getD v.toNat (0,0,0,0,0,[])).2).2).2).2).1,(((((c.2.1.getD v.toNat (0,0,0,0,0,[])).2).2).2).2).2)).bind fun r3=>
 bif !r3 then(
 some true)
 else(
 bif decide (0<v) then(
 gd (inB (wi64 (v-1)) c.2.1.length)<|
 some (decide ((c.2.1.getD v.toNat (0,(0,(0,(0,(0,[])))))).1<=(c.2.1.getD (wi64 (v-1)).toNat (0,(0,(0,(0,(0,[])))))).1)))
 else(
 some false))) fun s=>
 bif s then(
 some (.inr (.inr 21)))
 else(
 some (.inl (wi64 (v+1)))))
 else(
 some (.inr (.inl ())))
def qfW(n:yB0)(c:yB9):Option (Int):=
 (qjb (n.1,n.2.1,n.2.2.1,n.2.2.2.1,n.2.2.2.2.1,n.2.2.2.2.2) (c.1.1,c.1.2.1,c.1.2.2.1,c.1.2.2.2)).bind fun r=>
 bif !decide (r=0) then(
 some r)
 else(
 (qdV c.2.2.1).bind fun r2=>
 bif !r2 then(
 some 27)
 else(
 (iter (fun x=>qet c x) 0).bind fun s2=>
 s2.elim (fun s3=>
 Option.bind (α:=Bool) (
 bif decide (c.2.2.2<0) then(
 some true)
 else(
 some (decide (1000<c.2.2.2)))) fun s5=>
 bif s5 then(
 some 21)
 else(
 some 0))
 (fun s4=>
 some s4)))
def qmX:Fun:=
 ⟨12,2,1,
 ⟨[(0,dd tT0),(1,dd (.pair (.pair (.sl tT1) tT6) (.pair (.sl tT3) (.pair (.sl tT2) I6))))],[],[]⟩,
 ⟨[(0,ii)],[],[]⟩,
 fun x=>qfW x.1 x.2⟩
theorem qsp:FO qmX:=fi [] [qjZ,qeP,qfS] 55 [] ((nn (nn (nn (mm (nn (mm (.mk [] (some (⟨[(3,pt 64 0),(20,kk),(21,kk),(22,ii)],[(64,44,kp 7)],[]⟩,[⟨.x 0,⟨[(3,pt 64 0)],[(64,44,kp 7)],[]⟩⟩,⟨.r,⟨[(4,ii)],[],[]⟩⟩])) (nn (nn (mm (mm (nn (mm (.mk [.join [⟨.n,⟨[(3,pt 64 0),(20,kk),(21,kk),(22,kk),(45,bb)],[(64,44,kp 7)],[]⟩⟩]] none .nil .nil) .nil)) .nil) .nil))) .nil) .nil)) (mm (mm (.mk [.join [⟨.n,⟨[(54,bb)],[],[]⟩⟩]] none .nil .nil) .nil) .nil)))))) func12 ⟨⟨qon,qgP,qi7,trivial⟩,trivial⟩
def qgE(l:List yB1)(i:Int)(s:Int)(s2:Int)(s3:Int)(s4:Int):Option ((Int×Int×Int×Int×Int)⊕(Int×Int×Int×Int)):=
 bif decide (i<(l.length:Int)) then(
 gd (inB i l.length)<|
 gd (inB i l.length)<|
 gd (inB i l.length)<|
 gd (inB i l.length)<|
 some (.inl (wi64 (i+1),wi64 (s+(((l.getD i.toNat ([],(0,(0,(0,0))))).2).1)),wi64 (s2+((((l.getD i.toNat ([],(0,(0,(0,0))))).2).2).1)),wi64 (s3+(((((l.getD i.toNat ([],(0,(0,(0,0))))).2).2).2).1)),wi64 (s4+(((((l.getD i.toNat ([],(0,(0,(0,0))))).2).2).2).2)))))
 else(
 some (.inr (s,s2,s3,s4)))
def qoC(l:List yB1):Option (yB1×Int):=
 (qfQ l).bind fun r=>
 bif !r then(
 some (([],(0,(0,(0,0)))),27))
 else(
 (iter (fun x=>qgE l x.1 x.2.1 x.2.2.1 x.2.2.2.1 x.2.2.2.2) (0,0,0,0,0)).bind fun s5=>
 some (([],(s5.1,(s5.2.1,(s5.2.2.1,s5.2.2.2)))),0))
def qpG:Fun:=
 ⟨36,1,2,
 ⟨[(0,dd (.sl tT2))],[],[]⟩,
 ⟨[(0,dd tT2),(1,ii)],[],[]⟩,
 fun x=>qoC x⟩
theorem quY:FO qpG:=fi [] [qgd] 53 [] ((nn (nn (nn (mm (nn (mm (.mk [] (some (⟨[(0,kk),(2,pt 48 0),(4,pt 80 0),(5,ii)],v87_,[]⟩,[⟨.x 0,⟨r78_,v87_,[]⟩⟩])) .nil .nil) .nil)) .nil))))) func36 ⟨⟨qiE,trivial⟩,trivial⟩
def qfX(a:yB1):Option (Int):=
 some (wi64 ((wi64 ((wi64 (a.2.1-a.2.2.1))-a.2.2.2.1))+a.2.2.2.2))
def qmY:Fun:=
 ⟨38,1,1,
 ⟨[(0,dd tT2)],[],[]⟩,
 ⟨[(0,ii)],[],[]⟩,
 fun x=>qfX x⟩
theorem qsq:FO qmY:=fi [] [] 14 [] .nil func38 ⟨trivial,trivial⟩
def qhc(total:Int)(weight:Int)(sum:Int)(q:Int)(r:Int)(i:Int):Option ((Int×Int×Int)⊕(Int×Int)):=
 bif decide (0<=i) then(
 gd (!decide (wu64 i<0))<|
 Option.bind (α:=Int) (
 bif decide (qdZ .i64 (Int.fdiv total (2^shAmt .i64 (wu64 i))) 1=1) then(
 some (wi64 ((wi64 (2*r))+weight)))
 else(
 some (wi64 (2*r)))) fun s=>
 gd (!decide (sum=0))<|
 gd (!decide (sum=0))<|
 some (.inl (wi64 ((wi64 (2*q))+(wi64 (Int.tdiv s sum))),Int.tmod s sum,wi64 (i-1))))
 else(
 some (.inr (q,r)))
def qji(total:Int)(weight:Int)(sum:Int):Option (Int×Int):=
 (iter (fun x=>qhc total weight sum x.1 x.2.1 x.2.2) (0,0,40)).bind fun s2=>
 some (s2.1,s2.2)
def qoD:Fun:=
 ⟨90,3,2,
 ⟨r102_,[],[]⟩,
 ⟨r50_,[],[]⟩,
 fun x=>qji x.1 x.2.1 x.2.2⟩
theorem qtP:FO qoD:=fi [] [] 38 [] ((nn (nn (mm (nn (mm (.mk [] (some (⟨[(0,kk),(1,kk),(2,kk),(8,ii),(9,ii),(10,ii)],[],[]⟩,[⟨.x 0,⟨[(8,ii),(9,ii)],[],[]⟩⟩])) (nn (mm (mm (nn (mm (nn (.mk [.join [⟨.n,⟨[(0,kk),(1,kk),(2,kk),(8,kk),(9,ii),(10,kk)],[],[]⟩⟩]] none .nil .nil)) .nil)) .nil) .nil)) .nil) .nil)) .nil)))) func90 ⟨trivial,trivial⟩
def qgi(weights:List Int)(sum:Int)(i:Int):Option ((Int×Int)⊕(Int⊕(List Int×Int))):=
 bif decide (i<(weights.length:Int)) then(
 Option.bind (α:=Bool) (
 gd (inB i weights.length)<|
 bif decide (weights.getD i.toNat 0<0) then(
 some true)
 else(
 gd (inB i weights.length)<|
 some (decide (1125899906842624<weights.getD i.toNat 0)))) fun s2=>
 bif s2 then(
 some (.inr (.inr ([],1))))
 else(
 gd (inB i weights.length)<|
 some (.inl (wi64 (sum+(weights.getD i.toNat 0)),wi64 (i+1)))))
 else(
 some (.inr (.inl sum)))
def qeu(total:Int)(weights:List Int)(s4:Int)(left:Int)(i2:Int)(out:List Int)(rest:List Int):Option ((Int×Int×List Int×List Int)⊕(Int×List Int×List Int)):=
 bif decide (i2<(weights.length:Int)) then(
 gd (inB i2 weights.length)<|
 (qji (max total (wi64 (0-total))) (weights.getD i2.toNat 0) s4).bind fun r=>
 gd (inB i2 out.length)<|
 gd (inB i2 rest.length)<|
 gd (inB i2 (out.set i2.toNat r.1).length)<|
 some (.inl (wi64 (left-((out.set i2.toNat r.1).getD i2.toNat 0)),wi64 (i2+1),out.set i2.toNat r.1,rest.set i2.toNat r.2)))
 else(
 some (.inr (left,out,rest)))
def qgj(k:Int)(i3:Int)(out3:List Int)(rest3:List Int):Option ((Int×Int×List Int×List Int)⊕(Int×List Int×List Int)):=
 bif decide (i3<(rest3.length:Int)) then(
 gd (inB i3 rest3.length)<|
 gd (inB k rest3.length)<|
 Option.bind (α:=Int×List Int×List Int) (
 bif decide (rest3.getD k.toNat 0<rest3.getD i3.toNat 0) then(
 some (i3,out3,rest3))
 else(
 some (k,out3,rest3))) fun s7=>
 some (.inl (s7.1,wi64 (i3+1),s7.2.1,s7.2.2)))
 else(
 some (.inr (k,out3,rest3)))
def qiL(left2:Int)(out2:List Int)(rest2:List Int):Option ((Int×List Int×List Int)⊕(List Int)):=
 bif decide (0<left2) then(
 (iter (fun x3=>qgj x3.1 x3.2.1 x3.2.2.1 x3.2.2.2) (0,1,out2,rest2)).bind fun s8=>
 gd (inB s8.1 s8.2.1.length)<|
 gd (inB s8.1 s8.2.1.length)<|
 gd (inB s8.1 s8.2.2.length)<|
 some (.inl (wi64 (left2-1),s8.2.1.set s8.1.toNat (wi64 ((s8.2.1.getD s8.1.toNat 0)+1)),s8.2.2.set s8.1.toNat (-1))))
 else(
 some (.inr out2))
def qdm(total:Int)(i4:Int)(out4:List Int):Option ((Int×List Int)⊕(List Int)):=
 Option.bind (α:=Bool×List Int) (
 bif decide (i4<(out4.length:Int)) then(
 some (decide (total<0),out4))
 else(
 some (false,out4))) fun s10=>
 bif s10.1 then(
 gd (inB i4 s10.2.length)<|
 gd (inB i4 s10.2.length)<|
 some (.inl (wi64 (i4+1),s10.2.set i4.toNat (wi64 (0-(s10.2.getD i4.toNat 0))))))
 else(
 some (.inr s10.2))
def qj6(total:Int)(weights:List Int):Option (List Int×Int):=
 bif decide (64<(weights.length:Int)) then(
 some ([],4))
 else(
 Option.bind (α:=Bool) (
 bif decide (total<(-1099511627776)) then(
 some true)
 else(
 some (decide (1099511627776<total)))) fun s=>
 bif s then(
 some ([],1))
 else(
 (iter (fun x=>qgi weights x.1 x.2) (0,0)).bind fun s3=>
 s3.elim (fun s4=>
 bif decide (total=0) then(
 gd (makeG 8 (weights.length:Int))<|
 some (List.replicate (weights.length:Int).toNat (0:Int),0))
 else(
 bif decide (s4=0) then(
 some ([],9))
 else(
 gd (makeG 8 (weights.length:Int))<|
 gd (makeG 8 (weights.length:Int))<|
 (iter (fun x2=>qeu total weights s4 x2.1 x2.2.1 x2.2.2.1 x2.2.2.2) (max total (wi64 (0-total)),0,List.replicate (weights.length:Int).toNat (0:Int),List.replicate (weights.length:Int).toNat (0:Int))).bind fun s6=>
 (iter (fun x4=>qiL x4.1 x4.2.1 x4.2.2) (s6.1,s6.2.1,s6.2.2)).bind fun s9=>
 (iter (fun x5=>qdm total x5.1 x5.2) (0,s9)).bind fun s11=>
 some (s11,0))))
 (fun s5=>
 some (s5.1,s5.2))))
def qmZ:Fun:=
 ⟨37,2,2,
 ⟨[(0,ii),(1,dd (.sl I6))],[],[]⟩,
 ⟨[(0,dd (.sl I6)),(1,ii)],[],[]⟩,
 fun x=>qj6 x.1 x.2⟩
theorem qsr:FO qmZ:=fi [] [qoD] 144 [] ((nn (nn (mm (mm (.mk [.join [⟨.n,⟨[(0,kk),(1,kk),(23,bb)],[],[]⟩⟩]] none .nil .nil) .nil) (nn (mm (nn (mm (.mk [] (some (⟨[(0,kk),(1,kk),(6,ii),(7,ii)],[],[]⟩,[⟨.x 0,⟨[(0,kk),(1,kk),(6,ii)],[],[]⟩⟩,⟨.r,⟨[(4,dd (.sl I6)),(5,ii)],[],[]⟩⟩])) (nn (mm (mm (mm (mm (.mk [.join [⟨.n,⟨[(0,kk),(1,kk),(6,kk),(7,kk),(41,bb)],[],[]⟩⟩]] none .nil .nil) .nil) .nil) .nil) .nil)) .nil) .nil)) (nn (nn (nn (nn (nn (mm (nn (mm (.mk [] (some (⟨[(0,kk),(1,kk),(6,kk),(8,ow 928),(9,ow 976),(10,ii),(11,ii)],[],a59_⟩,[⟨.x 2,⟨[(0,kk),(8,ow 928),(9,ow 976),(10,ii)],[],a59_⟩⟩])) .nil .nil) .nil)) (mm (mm (.mk [] (some (⟨[(0,kk),(8,ow 928),(9,ow 976),(10,ii)],[],a59_⟩,[⟨.x 4,⟨[(0,kk),(8,ow 928)],[],[(928,.arr 3 I6)]⟩⟩])) (nn (mm (mm (nn (mm (nn (mm (.mk [] (some (⟨[(0,kk),(8,ow 928),(9,ow 976),(10,kk),(12,ii),(13,ii)],[],a59_⟩,[⟨.x 6,⟨[(0,kk),(8,ow 928),(9,ow 976),(10,kk),(12,ii)],[],a59_⟩⟩])) (nn (mm (mm (nn (.mk [.join [⟨.n,⟨[(0,kk),(8,ow 928),(9,ow 976),(10,kk),(12,ii),(13,kk)],[],a59_⟩⟩]] none .nil .nil)) .nil) .nil)) .nil) .nil)) .nil)) .nil) .nil)) .nil) .nil) (mm (nn (mm (.mk [] (some (⟨[(0,kk),(8,ow 928),(14,ii)],[],[(928,.arr 3 I6)]⟩,[⟨.x 8,⟨[(8,ow 928)],[],[(928,.arr 3 I6)]⟩⟩])) (mm (mm (.mk [.join [⟨.n,⟨[(0,kk),(8,ow 928),(14,kk),(132,bb)],[],[(928,.arr 3 I6)]⟩⟩]] none .nil .nil) .nil) .nil) .nil) .nil)) .nil)))))))))))))) func37 ⟨⟨qtP,trivial⟩,trivial⟩
def qev(l:List yB1)(i:Int)(weights:List Int):Option ((Int×List Int)⊕(List Int)):=
 bif decide (i<(l.length:Int)) then(
 gd (inB i l.length)<|
 gd (fits (weights.length+1) 8)<|
 some (.inl (wi64 (i+1),weights++[(((l.getD i.toNat ([],(0,(0,(0,0))))).2).2).1])))
 else(
 some (.inr weights))
def qiM(l:List yB1)(r4:List Int×Int)(out:List yB1)(i2:Int)(entries:yB13):Option (((List yB1)×Int×List (List UInt8×Int×Int))⊕(((List yB1)×List (List UInt8×Int×Int))⊕((List yB1)×yB13×Int))):=
 bif decide (i2<(l.length:Int)) then(
 Option.bind (α:=((List yB1)×List (List UInt8×Int×Int))⊕((List yB1)×yB13×Int)) (
 gd (inB i2 r4.1.length)<|
 bif decide (r4.1.getD i2.toNat 0=0) then(
 some (.inl (out,entries)))
 else(
 gd (inB i2 l.length)<|
 gd (inB i2 r4.1.length)<|
 (qe4 out ((l.getD i2.toNat ([],0,0,0,0)).1,4,r4.1.getD i2.toNat 0)).bind fun r5=>
 bif !decide (r5.2=0) then(
 some (.inr (l,[],4)))
 else(
 gd (fits (entries.length+1) 32)<|
 some (.inl (r5.1,entries++[((l.getD i2.toNat ([],(0,(0,(0,0))))).1,(4,r4.1.getD i2.toNat 0))]))))) fun s3=>
 s3.elim (fun s4=>
 some (.inl (s4.1,wi64 (i2+1),s4.2)))
 (fun s5=>
 some (.inr (.inr (s5.1,s5.2.1,s5.2.2)))))
 else(
 some (.inr (.inl (out,entries))))
def qj7(l:List yB1)(measured:Int):Option ((List yB1)×yB13×Int):=
 (qfQ l).bind fun r=>
 bif !r then(
 some (l,[],27))
 else(
 Option.bind (α:=Bool) (
 bif decide (measured<0) then(
 some true)
 else(
 some (decide (1099511627776<measured)))) fun s=>
 bif s then(
 some (l,[],1))
 else(
 (qoC l).bind fun r2=>
 (iter (fun x=>qev l x.1 x.2) (0,[])).bind fun s2=>
 (qfX (r2.1.1,r2.1.2.1,r2.1.2.2.1,r2.1.2.2.2.1,r2.1.2.2.2.2)).bind fun r3=>
 (qj6 (wi64 (measured-r3)) s2).bind fun r4=>
 bif !decide (r4.2=0) then(
 some (l,[],r4.2))
 else(
 gd (fits (0+l.length) 48)<|
 (iter (fun x2=>qiM l r4 x2.1 x2.2.1 x2.2.2) (([]++l),0,[])).bind fun s6=>
 s6.elim (fun s7=>
 some (s7.1,s7.2,0))
 (fun s8=>
 some (s8.1,s8.2.1,s8.2.2)))))
def qm0:Fun:=
 ⟨13,2,3,
 ⟨[(0,dd (.sl tT2)),(1,ii)],[],[]⟩,
 ⟨[(0,dd (.sl tT2)),(1,dd (.sl (.pair (.str) tT7))),(2,ii)],[],[]⟩,
 fun x=>qj7 x.1 x.2⟩
theorem qss:FO qm0:=fi [62] [qgd,qpG,qmY,qmZ,qjM] 102 [] ((nn (nn (mm (mm (.mk [.join [⟨.n,⟨[(0,kk),(1,kk),(28,bb)],[],[]⟩⟩]] none .nil .nil) .nil) (nn (nn (mm (nn (mm (.mk [] (some (⟨[(0,kk),(1,kk),(7,pt 128 0),(9,ow 171),(10,ii)],[(128,110,kp 5)],[(171,.arr 3 I6)]⟩,[⟨.x 0,⟨[(0,kk),(1,kk),(7,pt 128 0),(9,ow 171)],[(128,110,kp 5)],[(171,.arr 3 I6)]⟩⟩])) .nil .nil) .nil)) (mm (.mk [.fz [9]] none .nil .nil) (nn (nn (nn (mm (nn (mm (.mk [] (some (⟨[(0,kk),(11,kk),(13,dd (.sl tT2)),(14,ow 251),(15,ii)],[],a128_⟩,[⟨.x 2,⟨[(13,dd (.sl tT2)),(14,ow 251)],[],a128_⟩⟩,⟨.r,⟨r110_,[],[]⟩⟩])) (nn (mm (.mk [.join [⟨.n,⟨[(0,kk),(11,kk),(13,dd (.sl tT2)),(14,ow 251),(15,kk)],[],a128_⟩⟩,⟨.r,⟨r110_,[],[]⟩⟩]] none (nn (nn (mm (.mk [.fz [13]] none .nil .nil) .nil))) .nil) .nil)) .nil) .nil)) .nil)))))))))))) func13 ⟨⟨qiE,quY,qsq,qsr,qn4,trivial⟩,trivial⟩
def qcC(a:yB1):Option (Int):=
 some (wi64 ((wi64 ((wi64 (a.2.1-a.2.2.1))-a.2.2.2.1))+a.2.2.2.2))
def qky:Fun:=
 ⟨40,1,1,
 ⟨[(0,dd tT2)],[],[]⟩,
 ⟨[(0,ii)],[],[]⟩,
 fun x=>qcC x⟩
theorem qp3:FO qky:=fi [] [] 14 [] .nil func40 ⟨trivial,trivial⟩
def qdG(l:List yB1)(sum:Int)(v:Int):Option ((Int×Int)⊕Int):=
 bif decide (v<(l.length:Int)) then(
 gd (inB v l.length)<|
 (qcC ((l.getD v.toNat ([],0,0,0,0)).1,((l.getD v.toNat ([],0,0,0,0)).2).1,(((l.getD v.toNat ([],0,0,0,0)).2).2).1,((((l.getD v.toNat ([],0,0,0,0)).2).2).2).1,((((l.getD v.toNat ([],0,0,0,0)).2).2).2).2)).bind fun r2=>
 some (.inl (wi64 (sum+r2),wi64 (v+1))))
 else(
 some (.inr sum))
def qit(l:List yB1)(measured:Int):Option (Bool×Int):=
 (qdV l).bind fun r=>
 bif !r then(
 some (false,27))
 else(
 (iter (fun x=>qdG l x.1 x.2) (0,0)).bind fun s=>
 some (decide (s=measured),0))
def qlD:Fun:=
 ⟨14,2,2,
 ⟨[(0,dd (.sl tT2)),(1,ii)],[],[]⟩,
 ⟨[(0,bb),(1,ii)],[],[]⟩,
 fun x=>qit x.1 x.2⟩
theorem qrD:FO qlD:=fi [] [qeP,qky] 26 [] ((nn (nn (nn (mm (nn (mm (.mk [] (some (⟨[(1,kk),(6,ii),(12,kk),(13,kk),(14,ii)],[],[]⟩,[⟨.x 0,⟨[(1,kk),(6,ii)],[],[]⟩⟩])) .nil .nil) .nil)) .nil))))) func14 ⟨⟨qgP,qp3,trivial⟩,trivial⟩
def qdH(r4:yB0×List Int×Int)(i:Int)(s:List Int)(s2:Int)(c:yB4)(c2:List Int)(c3:List Int)(c4:List Bool)(c5:List yB2)(c6:List yB1)(c7:Int)(f:List Int)(f2:List Int):Option ((Int×List Int×Int×yB4×List Int×List Int×List Bool×(List yB2)×(List yB1)×Int×List Int×List Int)⊕((yB4×List Int×List Int×List Bool×(List yB2)×(List yB1)×Int)⊕Bool)):=
 bif decide (i<10) then(
 (qg1 (r4.1.1,r4.1.2.1,r4.1.2.2.1,r4.1.2.2.2.1,r4.1.2.2.2.2.1,r4.1.2.2.2.2.2) ((c,c2,c3,c4),c5,c6,c7) s s2).bind fun r6=>
 (qjQ (r4.1.1,r4.1.2.1,r4.1.2.2.1,r4.1.2.2.2.1,r4.1.2.2.2.2.1,r4.1.2.2.2.2.2) (f,f2) ((c,c2,c3,c4),c5,c6,c7) r6.1).bind fun r7=>
 (qfC (r4.1.1,r4.1.2.1,r4.1.2.2.1,r4.1.2.2.2.1,r4.1.2.2.2.2.1,r4.1.2.2.2.2.2) 2 (r7.1.1,r7.1.2) ((r7.2.1.1.1,r7.2.1.1.2.1,r7.2.1.1.2.2.1,r7.2.1.1.2.2.2),r7.2.1.2.1,r7.2.1.2.2.1,r7.2.1.2.2.2)).bind fun r8=>
 Option.bind (α:=Bool) (
 bif !decide (r8.2=0) then(
 some true)
 else(
 bif !r8.1 then(
 some true)
 else(
 (qfW (r4.1.1,r4.1.2.1,r4.1.2.2.1,r4.1.2.2.2.1,r4.1.2.2.2.2.1,r4.1.2.2.2.2.2) ((r7.2.1.1.1,r7.2.1.1.2.1,r7.2.1.1.2.2.1,r7.2.1.1.2.2.2),r7.2.1.2.1,r7.2.1.2.2.1,r7.2.1.2.2.2)).bind fun r9=>
 some (!decide (r9=0))))) fun s3=>
 bif s3 then(
 some (.inr (.inr false)))
 else(
 some (.inl (wi64 (i+1),r6.2.1,r6.2.2,r7.2.1.1.1,r7.2.1.1.2.1,r7.2.1.1.2.2.1,r7.2.1.1.2.2.2,r7.2.1.2.1,r7.2.1.2.2.1,r7.2.1.2.2.2,r7.1.1,r7.1.2))))
 else(
 some (.inr (.inl (c,c2,c3,c4,c5,c6,c7))))
def qfD(l:List Int)(measured:Int):Option (Bool):=
 (qoV l).bind fun r=>
 bif !r then(
 (qeU).bind fun r2=>
 some r2)
 else(
 (qqc l).bind fun r3=>
 (qex r3.1 r3.2).bind fun r4=>
 (qnR (r4.1.1,r4.1.2.1,r4.1.2.2.1,r4.1.2.2.2.1,r4.1.2.2.2.2.1,r4.1.2.2.2.2.2) 2).bind fun r5=>
 (iter (fun x=>qdH r4 x.1 x.2.1 x.2.2.1 x.2.2.2.1 x.2.2.2.2.1 x.2.2.2.2.2.1 x.2.2.2.2.2.2.1 x.2.2.2.2.2.2.2.1 x.2.2.2.2.2.2.2.2.1 x.2.2.2.2.2.2.2.2.2.1 x.2.2.2.2.2.2.2.2.2.2.1 x.2.2.2.2.2.2.2.2.2.2.2) (0,r4.2.1,r4.2.2,r5.1.1.1,r5.1.1.2.1,r5.1.1.2.2.1,r5.1.1.2.2.2,r5.1.2.1,r5.1.2.2.1,r5.1.2.2.2,[],[])).bind fun s4=>
 s4.elim (fun s5=>
 (qj7 s5.2.2.2.2.2.1 (wi64 measured)).bind fun r10=>
 bif !decide (r10.2.2=0) then(
 (qeU).bind fun r11=>
 some r11)
 else(
 (qit r10.1 (wi64 measured)).bind fun r12=>
 bif decide (r12.2=0) then(
 bif r12.1 then(
 (qeU).bind fun r13=>
 some r13)
 else(
 some false))
 else(
 some false)))
 (fun s6=>
 some s6))
def qgF:Fun:=
 ⟨3,2,1,
 ⟨[(0,dd (.sl I6)),(1,dd (.int .u16))],[],[]⟩,
 ⟨[(0,bb)],[],[]⟩,
 fun x=>qfD x.1 x.2⟩
theorem qlE:FO qgF:=fi [] [qnM,qmt,qq5,qhp,qpu,qki,qmL,qkx,qmX,qm0,qlD] 93 [] ((nn (nn (nn (nn (nn (nn (mm (nn (mm (.mk [] (some (⟨[(1,kk),(5,pt 384 0),(6,pt 112 0),(7,pt 128 0),(9,pt 160 0),(10,ii)],[(384,78,[.data (.sl I6),.data I6]),(112,33,kp 6),(128,44,[.data (.sl tT1),.data (.sl I6),.data (.sl I6),.data (.sl (.bool)),.data (.sl tT3),.data (.sl tT2),.data I6]),(160,50,[.data (.sl (.int .u8)),.data (.sl (.int .u8))])],[]⟩,[⟨.x 0,⟨[(1,kk),(7,pt 128 0)],[(128,44,[.data (.sl tT1),.data (.sl I6),.data (.sl I6),.data (.sl (.bool)),.data (.sl tT3),.data (.sl tT2),.data I6])],[]⟩⟩,⟨.r,⟨[(4,bb)],[],[]⟩⟩])) (nn (mm (mm (nn (nn (mm (.mk [.join [⟨.n,⟨[(1,kk),(5,pt 384 0),(6,pt 112 0),(7,pt 128 0),(9,pt 160 0),(10,kk),(65,bb)],[(384,78,[.keep,.keep]),(112,33,kp 6),(128,44,kp 7),(160,50,[.keep,.keep])],[]⟩⟩]] none .nil .nil) .nil))) .nil) .nil)) .nil) .nil)) .nil)))))))) func3 ⟨⟨qto,qrX,qwh,qm8,quQ,qpQ,qsg,qp2,qsp,qss,qrD,trivial⟩,trivial⟩
end
end Go.Proofs.YtfdgemafaphpaaaGreat
