/- Functions, evaluated. No condition. -/
import Derived.Test.YtgmjmgihjjddmaaGreatProg
import Derived.Test.YtgmjmgihjjddmaaGreatQu
namespace Go.Proofs.YtgmjmgihjjddmaaGreat
open Go Go.Sq
open Go.Proofs.Tryz
noncomputable section
def qlD(r2:Int×Int×Int×Bool×List (Int×Bool))(k:Int)(rates3:List Int)(ports3:List Int)(out3:List yB8)(x:List (Int×Bool)):Option ((Int×List Int×List Int×(List yB8)×List (Int×Bool))⊕(List Int×List Int×(List yB8)×List (Int×Bool))):=
 bif decide (k<(x.length:Int)) then(
 gd (inB k x.length)<|
 Option.bind (α:=List Int×List Int×(List yB8)×List (Int×Bool)) (
 bif (x.getD k.toNat (0,false)).2 then(
 gd (inB ((x.getD k.toNat (0,false)).1) rates3.length)<|
 gd (inB ((x.getD k.toNat (0,false)).1) rates3.length)<|
 some (rates3.set (((x.getD k.toNat (0,false)).1).toNat) (wi64 ((rates3.getD (((x.getD k.toNat (0,false)).1).toNat) 0)+r2.2.2.1)),ports3,out3,x))
 else(
 gd (inB ((x.getD k.toNat (0,false)).1) rates3.length)<|
 gd (inB ((x.getD k.toNat (0,false)).1) rates3.length)<|
 some (rates3.set (((x.getD k.toNat (0,false)).1).toNat) (wi64 ((rates3.getD (((x.getD k.toNat (0,false)).1).toNat) 0)-r2.2.2.1)),ports3,out3,x))) fun s2=>
 some (.inl (wi64 (k+1),s2.1,s2.2.1,s2.2.2.1,s2.2.2.2)))
 else(
 some (.inr (rates3,ports3,out3,x)))
def qhM(n:yB0)(i:Int)(rates2:List Int)(ports2:List Int)(out2:List yB8):Option ((List Int×List Int×List yB8)⊕((List Int×List Int×List yB8)⊕((List yB8)×Int))):=
 gd (inB i ports2.length)<|
 bif decide (0<ports2.getD i.toNat 0) then(
 (qiw (n.1,(n.2.1,(n.2.2.1,(n.2.2.2.1,(n.2.2.2.2.1,n.2.2.2.2.2))))) rates2 ports2 i).bind fun r2=>
 Option.bind (α:=Bool×List Int×List Int×(List yB8)×List (Int×Bool)) (
 bif !r2.2.2.2.1 then(
 some (true,rates2,ports2,out2,r2.2.2.2.2))
 else(
 bif decide ((out2.length:Int)=64) then(
 some (true,rates2,ports2,out2,r2.2.2.2.2))
 else(
 some (decide (32<(r2.2.2.2.2.length:Int)),rates2,ports2,out2,r2.2.2.2.2)))) fun s=>
 bif s.1 then(
 some (.inr (.inr ([],23))))
 else(
 gd (inB r2.1 s.2.2.1.length)<|
 gd (inB r2.1 s.2.2.1.length)<|
 gd (inB r2.2.1 (s.2.2.1.set r2.1.toNat (wi64 ((s.2.2.1.getD r2.1.toNat 0)-r2.2.2.1))).length)<|
 gd (inB r2.2.1 (s.2.2.1.set r2.1.toNat (wi64 ((s.2.2.1.getD r2.1.toNat 0)-r2.2.2.1))).length)<|
 (iter (fun x2=>qlD r2 x2.1 x2.2.1 x2.2.2.1 x2.2.2.2.1 x2.2.2.2.2) (0,s.2.1,(s.2.2.1.set r2.1.toNat (wi64 ((s.2.2.1.getD r2.1.toNat 0)-r2.2.2.1))).set r2.2.1.toNat (wi64 (((s.2.2.1.set r2.1.toNat (wi64 ((s.2.2.1.getD r2.1.toNat 0)-r2.2.2.1))).getD r2.2.1.toNat 0)+r2.2.2.1)),s.2.2.2.1,s.2.2.2.2)).bind fun s3=>
 gd (fits (s3.2.2.1.length+1) 48)<|
 some (.inl (s3.1,s3.2.1,s3.2.2.1++[(r2.1,(r2.2.1,(s3.2.2.2,r2.2.2.1)))]))))
 else(
 some (.inr (.inl (rates2,ports2,out2))))
def qhN(n:yB0)(i:Int)(rates:List Int)(ports:List Int)(out:List yB8):Option ((Int×List Int×List Int×List yB8)⊕((List yB8)⊕((List yB8)×Int))):=
 bif decide (i<(ports.length:Int)) then(
 (iter (fun x3=>qhM n i x3.1 x3.2.1 x3.2.2) (rates,ports,out)).bind fun s4=>
 s4.elim (fun s5=>
 some (.inl (wi64 (i+1),s5.1,s5.2.1,s5.2.2)))
 (fun s6=>
 some (.inr (.inr (s6.1,s6.2)))))
 else(
 some (.inr (.inl out)))
def qix(n:yB0)(p:yB7):Option ((List yB8)×Int):=
 (qeM (n.1,(n.2.1,(n.2.2.1,(n.2.2.2.1,(n.2.2.2.2.1,n.2.2.2.2.2))))) (p.1,(p.2.1,p.2.2))).bind fun r=>
 bif !decide (r=0) then(
 some ([],r))
 else(
 gd (fits (0+p.1.length) 8)<|
 gd (fits (0+p.2.1.length) 8)<|
 (iter (fun x4=>qhN n x4.1 x4.2.1 x4.2.2.1 x4.2.2.2) (0,([]++p.1),([]++p.2.1),[])).bind fun s7=>
 s7.elim (fun s8=>
 some (s8,0))
 (fun s9=>
 some (s9.1,s9.2)))
def qlE:Fun:=
 ⟨64,2,2,
 ⟨r64_,[],[]⟩,
 ⟨[(0,dd (.sl tT4)),(1,ii)],[],[]⟩,
 fun x=>qix x.1 x.2⟩
theorem qrr:FO qlE:=fi [21,25] [qeg,qlC] 128 [] ((nn (nn (nn (nn (nn (mm (nn (mm (.mk [] (some (⟨[(2,pt 48 0),(7,ow 400),(8,ow 464),(9,ow 171),(10,ii)],[(48,32,(kp 6))],a92_⟩,[⟨.x 0,⟨[(9,ow 171)],[],[(171,.arr 56 tT4)]⟩⟩,⟨.r,⟨[(4,dd (.sl tT4)),(5,ii)],[],[]⟩⟩])) (nn (mm (mm (mm (.mk [] (some (⟨r123_,[(48,32,(kp 6))],a92_⟩,[⟨.x 2,⟨r123_,[(48,32,(kp 6))],a92_⟩⟩,⟨.r,⟨[(4,dd (.sl tT4)),(5,ii)],[],[]⟩⟩])) (nn (mm (nn (mm (mm (.mk [.join [⟨.n,⟨[(2,pt 48 0),(7,ow 400),(8,ow 464),(9,ow 171),(10,kk),(11,pt 192 0),(60,bb)],v51_,a30_⟩⟩]] none .nil .nil) .nil) (nn (nn (mm (nn (mm (.mk [] (some (⟨[(2,pt 48 0),(7,ow 400),(8,ow 464),(9,ow 171),(10,kk),(11,pt 192 0),(13,ii)],v51_,a30_⟩,[⟨.x 4,⟨[(2,pt 48 0),(7,ow 400),(8,ow 464),(9,ow 171),(10,kk),(11,pt 192 0)],v51_,a30_⟩⟩])) (nn (mm (mm (nn (nn (.mk [.join [⟨.n,⟨[(2,pt 48 0),(7,ow 400),(8,ow 464),(9,ow 171),(10,kk),(11,pt 192 0),(13,kk)],v51_,a30_⟩⟩]] none .nil .nil))) .nil) .nil)) .nil) .nil)) (.mk [.fz [11]] none .nil .nil)))))) .nil)) .nil) .nil) .nil) .nil)) .nil) .nil)) .nil))))))) func64 ⟨⟨qf2,qrq,trivial⟩,trivial⟩
def qjl(p:yB8):Option (Int×Int×Int×List (Int×Bool)):=
 gd (fits (0+p.2.2.1.length) 16)<|
 some (p.1,p.2.1,p.2.2.2,([]++p.2.2.1))
def qj6:Fun:=
 ⟨65,1,1,
 ⟨[(0,dd tT4)],[],[]⟩,
 ⟨[(0,.agg [.data I6,.data I6,.own 0,.data I6])],[],[(0,.arr 97 (.pair I6 (.bool)))]⟩,
 fun x=>qjl x⟩
theorem qoD:FO qj6:=fi [3] [] 9 [] .nil func65 ⟨trivial,trivial⟩
def qj7(n:yB0)(d:yB6)(s:List Int)(s2:Int):Option (yB5×List Int×Int):=
 (qab 9 s s2).bind fun r=>
 bif decide (r.1=0) then(
 (qab (wi64 ((d.1.length:Int)+1)) r.2.1 r.2.2).bind fun r2=>
 some ((1,(r2.1,(0,(0,(0,([],0)))))),r2.2.1,r2.2.2))
 else(
 bif decide (r.1=1) then(
 (qab (wi64 ((d.1.length:Int)+2)) r.2.1 r.2.2).bind fun r3=>
 some ((2,(wi64 (r3.1-1),(0,(0,(0,([],0)))))),r3.2.1,r3.2.2))
 else(
 bif decide (r.1=2) then(
 (qab (wi64 ((n.2.2.2.1.length:Int)+1)) r.2.1 r.2.2).bind fun r4=>
 some ((3,(r4.1,(0,(0,(0,([],0)))))),r4.2.1,r4.2.2))
 else(
 bif decide (r.1=3) then(
 (qab (wi64 ((n.2.2.2.1.length:Int)+1)) r.2.1 r.2.2).bind fun r5=>
 some ((4,(r5.1,(0,(0,(0,([],0)))))),r5.2.1,r5.2.2))
 else(
 Option.bind (α:=Bool) (
 bif decide (r.1=4) then(
 some (decide (r.1=4)))
 else(
 some (decide (r.1=5)))) fun s3=>
 bif s3 then(
 (qac ([1,2,7,60,100,0,101]:List Int) r.2.1 r.2.2).bind fun r6=>
 some ((6,(0,(r6.1,(0,(0,([],0)))))),r6.2.1,r6.2.2))
 else(
 bif decide (r.1=6) then(
 (qab 9 r.2.1 r.2.2).bind fun r7=>
 (qab 4 r7.2.1 r7.2.2).bind fun r8=>
 (qab 5 r8.2.1 r8.2.2).bind fun r9=>
 (qab 2 r9.2.1 r9.2.2).bind fun r10=>
 (qab 2 r10.2.1 r10.2.2).bind fun r11=>
 some ((r7.1,(r8.1,(r9.1,(r10.1,(0,([],r11.1)))))),r11.2.1,r11.2.2))
 else(
 (qab 2 r.2.1 r.2.2).bind fun r12=>
 Option.bind (α:=List Int×Int×List Int×List Int×List Bool) (
 bif decide (r12.1=0) then(
 (qg1 (n.1,(n.2.1,(n.2.2.1,(n.2.2.2.1,(n.2.2.2.2.1,n.2.2.2.2.2))))) r12.2.1 r12.2.2).bind fun r13=>
 some (r13.2.1,r13.2.2,r13.1.1,r13.1.2.1,r13.1.2.2))
 else(
 some (r12.2.1,r12.2.2,d.2.1,d.2.2.1,d.2.2.2))) fun s4=>
 (qix (n.1,(n.2.1,(n.2.2.1,(n.2.2.2.1,(n.2.2.2.2.1,n.2.2.2.2.2))))) (s4.2.2.1,(s4.2.2.2.1,s4.2.2.2.2))).bind fun r14=>
 bif decide ((r14.1.length:Int)=0) then(
 some ((5,(0,(1,(0,(1,([],0)))))),s4.1,s4.2.1))
 else(
 (qab (r14.1.length:Int) s4.1 s4.2.1).bind fun r15=>
 gd (inB r15.1 r14.1.length)<|
 (qjl (r14.1.getD r15.1.toNat (0,(0,([],0))))).bind fun r16=>
 (qac [r16.2.2.1,wi64 (0-r16.2.2.1),1,(-1),wi64 (r16.2.2.1+1),wi64 ((wi64 (0-r16.2.2.1))-1),0] r15.2.1 r15.2.2).bind fun r17=>
 some ((5,(0,(r17.1,(r16.1,(r16.2.1,(r16.2.2.2,0)))))),r17.2.1,r17.2.2))))))))
def qmY:Fun:=
 ⟨35,3,1,
 ⟨[(0,pt 0 0),(1,dd tT0),(2,dd (.pair (.sl tT2) tT6))],v3_,[]⟩,
 ⟨r66_,v3_,[]⟩,
 fun x=>qj7 x.1 x.2.1 x.2.2.1 x.2.2.2⟩
theorem qr7:FO qmY:=fi [] [qa4,qbv,qkL,qlE,qj6] 118 [] ((nn (mm (nn (mm (nn (nn (nn (nn (nn (nn (nn (nn (mm (nn (.mk [.join [⟨.n,⟨[(0,pt 0 0),(4,pt 80 0),(5,pt 96 0),(6,pt 112 0),(13,kk),(51,bb)],[(0,88,[.keep,.keep]),(80,32,(kp 6)),(96,40,(kp 4)),(112,58,(kp 7))],[]⟩⟩]] none .nil .nil)) .nil))))))))) .nil)) (nn (mm (nn (.mk [.join [⟨.n,⟨[(0,pt 0 0),(4,pt 80 0),(6,pt 112 0),(7,pt 128 0)],[(0,88,[.data (.sl I6),.data I6]),(80,32,(kp 6)),(112,58,(kp 7)),(128,38,[.data (.sl I6),.data (.sl I6),.data (.sl (.bool))])],[]⟩⟩]] none .nil .nil)) .nil))))) func35 ⟨⟨qbc,qbW,qp3,qrr,qoD,trivial⟩,trivial⟩
def qfm(n:yB0)(c:yB1)(s:List Int)(s2:Int):Option (Int×Int×Int×Int×Int×Int×(List (Int×Bool))×Int×List UInt8×Int×Int×List Int×Int×List Int):=
 (qab 4 s s2).bind fun r=>
 bif decide (r.1=0) then(
 (qab 4 r.2.1 r.2.2).bind fun r2=>
 (qdR r2.1 r2.2.1 r2.2.2).bind fun r3=>
 gd (fits (5+r3.1.2.2.2.2.2.length) 8)<|
 some (1,0,0,0,0,0,[],0,[],0,0,r3.2.1,r3.2.2,[r3.1.1,r3.1.2.1,r3.1.2.2.1,r3.1.2.2.2.1,r3.1.2.2.2.2.1]++r3.1.2.2.2.2.2))
 else(
 bif decide (r.1=1) then(
 (qfY 2 r.2.1 r.2.2).bind fun r4=>
 bif decide ((r4.2.2.length:Int)=0) then(
 (qab 5 r4.1 r4.2.1).bind fun r5=>
 some (r5.1,0,0,0,0,0,[],0,[],0,0,r5.2.1,r5.2.2,[]))
 else(
 gd (inB 0 r4.2.2.length)<|
 some (3,0,0,0,0,0,[],0,(r4.2.2.getD 0 ([],(0,0))).1,((r4.2.2.getD 0 ([],(0,0))).2).1,((r4.2.2.getD 0 ([],(0,0))).2).2,r4.1,r4.2.1,[])))
 else(
 (qj7 (n.1,(n.2.1,(n.2.2.1,(n.2.2.2.1,(n.2.2.2.2.1,n.2.2.2.2.2))))) (c.1.1,(c.1.2.1,(c.1.2.2.1,c.1.2.2.2))) r.2.1 r.2.2).bind fun r6=>
 some (2,r6.1.1,r6.1.2.1,r6.1.2.2.1,r6.1.2.2.2.1,r6.1.2.2.2.2.1,r6.1.2.2.2.2.2.1,r6.1.2.2.2.2.2.2,[],0,0,r6.2.1,r6.2.2,[])))
def qgD:Fun:=
 ⟨13,3,1,
 ⟨[(0,pt 0 0),(1,dd tT0),(2,dd (.pair (.pair (.sl tT2) tT6) (.pair (.sl tT1) (.pair (.sl tT3) I6))))],v3_,[]⟩,
 ⟨[(0,.agg [.data I6,.own 1,.data I6,.data I6,.data I6,.data I6,.data I6,.data (.sl (.pair I6 (.bool))),.data I6,.data (.str),.data I6,.data I6])],v3_,[(1,.arr 3 I6)]⟩,
 fun x=>qfm x.1 x.2.1 x.2.2.1 x.2.2.2⟩
theorem qkM:FO qgD:=fi [27] [qa4,qgJ,qjj,qmY] 52 [] .nil func13 ⟨⟨qbc,qmB,qpl,qr7,trivial⟩,trivial⟩
def qf3(p:yB7):Option yB7:=
 gd (fits (0+p.1.length) 8)<|
 gd (fits (0+p.2.1.length) 8)<|
 gd (fits (0+p.2.2.length) 1)<|
 some (([]++p.1),([]++p.2.1),([]++p.2.2))
def qjm:Fun:=
 ⟨142,1,1,
 ⟨[(0,dd tT6)],[],[]⟩,
 ⟨[(0,.agg [.own 0,.own 1,.own 2])],[],[(0,.arr 3 I6),(1,.arr 3 I6),(2,.arr 4 (.bool))]⟩,
 fun x=>qf3 x⟩
theorem qpm:FO qjm:=fi [3,7,11] [] 16 [] .nil func142 ⟨trivial,trivial⟩
def qdS(d:yB6):Option (yB4×List Int×List Int×List Bool):=
 gd (fits (0+d.1.length) 24)<|
 (qf3 (d.2.1,(d.2.2.1,d.2.2.2))).bind fun r=>
 some (([]++d.1),r.1,r.2.1,r.2.2)
def qdT:Fun:=
 ⟨96,1,1,
 ⟨[(0,dd (.pair (.sl tT2) tT6))],[],[]⟩,
 ⟨[(0,.agg [.own 0,.own 1,.own 2,.own 3])],[],a70_⟩,
 fun x=>qdS x⟩
theorem qfn:FO qdT:=fi [3] [qjm] 11 [] .nil func96 ⟨⟨qpm,trivial⟩,trivial⟩
def qcz(t:yB3):Option yB3:=
 gd (fits (0+t.2.2.2.2.2.length) 8)<|
 some (t.1,(t.2.1,(t.2.2.1,(t.2.2.2.1,(t.2.2.2.2.1,([]++t.2.2.2.2.2))))))
def qdF:Fun:=
 ⟨85,1,1,
 ⟨[(0,dd tT1)],[],[]⟩,
 ⟨[(0,dd tT1)],[],[]⟩,
 fun x=>qcz x⟩
theorem qgn:FO qdF:=fi [3] [] 9 [] .nil func85 ⟨trivial,trivial⟩
def qg2(c:yB1)(i:Int)(x:yB4)(x2:List Int)(x3:List Int)(x4:List Bool)(x5:List yB3)(x6:List yB2):Option ((Int×yB4×List Int×List Int×List Bool×(List yB3)×List yB2)⊕(yB4×List Int×List Int×List Bool×(List yB3)×List yB2)):=
 bif decide (i<(c.2.1.length:Int)) then(
 gd (inB i c.2.1.length)<|
 (qcz (c.2.1.getD i.toNat (0,(0,(0,(0,(0,[]))))))).bind fun r2=>
 gd (fits (x5.length+1) 64)<|
 some (.inl (wi64 (i+1),x,x2,x3,x4,x5++[(r2.1,(r2.2.1,(r2.2.2.1,(r2.2.2.2.1,(r2.2.2.2.2.1,r2.2.2.2.2.2)))))],x6)))
 else(
 some (.inr (x,x2,x3,x4,x5,x6)))
def qmr(c:yB1):Option (Int×yB4×List Int×List Int×List Bool×(List yB3)×List yB2):=
 (qdS (c.1.1,(c.1.2.1,(c.1.2.2.1,c.1.2.2.2)))).bind fun r=>
 gd (fits (0+c.2.2.1.length) 48)<|
 (iter (fun x7=>qg2 c x7.1 x7.2.1 x7.2.2.1 x7.2.2.2.1 x7.2.2.2.2.1 x7.2.2.2.2.2.1 x7.2.2.2.2.2.2) (0,r.1,r.2.1,r.2.2.1,r.2.2.2,[],([]++c.2.2.1))).bind fun s=>
 some (c.2.2.2,s.1,s.2.1,s.2.2.1,s.2.2.2.1,s.2.2.2.2.1,s.2.2.2.2.2)
def qoE:Fun:=
 ⟨55,1,1,
 ⟨r101_,[],[]⟩,
 ⟨r112_,[],a69_⟩,
 fun x=>qmr x⟩
theorem qtv:FO qoE:=fi [8] [qdT,qdF] 34 [] ((nn (nn (mm (nn (mm (.mk [] (some (⟨[(1,pt 32 0),(2,pt 48 0),(3,pt 64 0),(4,ii)],[(32,44,(kp 7)),(48,44,(kp 7)),(64,44,[.own 128,.own 129,.own 130,.own 131,.own 1113,.own 192,.keep])],a55_⟩,[⟨.x 0,⟨r39_,[(48,44,(kp 7)),(64,44,[.own 128,.own 129,.own 130,.own 131,.own 1113,.own 192,.keep])],a55_⟩⟩])) .nil .nil) .nil)) .nil)))) func55 ⟨⟨qfn,qgn,trivial⟩,trivial⟩
def qiT(a:yB8)(b:yB8)(i:Int):Option (Int⊕(Unit⊕Bool)):=
 bif decide (i<(a.2.2.1.length:Int)) then(
 gd (inB i a.2.2.1.length)<|
 gd (inB i b.2.2.1.length)<|
 bif !(decide ((a.2.2.1.getD i.toNat (0,false)).1=(b.2.2.1.getD i.toNat (0,false)).1)&&((a.2.2.1.getD i.toNat (0,false)).2==(b.2.2.1.getD i.toNat (0,false)).2)) then(
 some (.inr (.inr false)))
 else(
 some (.inl (wi64 (i+1)))))
 else(
 some (.inr (.inl ())))
def qhO(a:yB8)(b:yB8):Option (Bool):=
 Option.bind (α:=Bool) (
 bif !decide (a.1=b.1) then(
 some true)
 else(
 bif !decide (a.2.1=b.2.1) then(
 some true)
 else(
 some (!decide ((a.2.2.1.length:Int)=(b.2.2.1.length:Int)))))) fun s=>
 bif s then(
 some false)
 else(
 (iter (fun x=>qiT a b x) 0).bind fun s2=>
 s2.elim (fun s3=>
 some true)
 (fun s4=>
 some s4))
def qmZ:Fun:=
 ⟨143,2,1,
 ⟨[(0,dd tT4),(1,dd tT4)],[],[]⟩,
 ⟨[(0,bb)],[],[]⟩,
 fun x=>qhO x.1 x.2⟩
theorem qr8:FO qmZ:=fi [] [] 45 [] ((nn (mm (mm (.mk [.join [⟨.n,⟨[(2,pt 48 0),(3,pt 64 0),(26,bb)],[(48,56,(kp 4)),(64,56,(kp 4))],[]⟩⟩]] none .nil .nil) .nil) (mm (nn (mm (.mk [] (some (⟨r104_,[(48,56,(kp 4)),(64,56,(kp 4))],[]⟩,[⟨.x 0,⟨[],[],[]⟩⟩,⟨.r,⟨[(4,bb)],[],[]⟩⟩])) .nil .nil) .nil)) .nil)))) func143 ⟨trivial,trivial⟩
def qiU(a:yB5)(b:yB5):Option (Bool):=
 bif decide (a.1=b.1) then(
 bif decide (a.2.1=b.2.1) then(
 bif decide (a.2.2.1=b.2.2.1) then(
 bif decide (a.2.2.2.2.2.2=b.2.2.2.2.2.2) then(
 (qhO (a.2.2.2.1,(a.2.2.2.2.1,(a.2.2.2.2.2.1,a.2.2.2.2.2.2))) (b.2.2.2.1,(b.2.2.2.2.1,(b.2.2.2.2.2.1,b.2.2.2.2.2.2)))).bind fun r=>
 some r)
 else(
 some false))
 else(
 some false))
 else(
 some false))
 else(
 some false)
def qjn:Fun:=
 ⟨97,2,1,
 ⟨[(0,dd (.pair I6 (.pair I6 (.pair I6 tT4)))),(1,dd (.pair I6 (.pair I6 (.pair I6 tT4))))],[],[]⟩,
 ⟨[(0,bb)],[],[]⟩,
 fun x=>qiU x.1 x.2⟩
theorem qpn:FO qjn:=fi [] [qmZ] 40 [] .nil func97 ⟨⟨qr8,trivial⟩,trivial⟩
def qgo(s:yB5):Option (Bool):=
 (qiU (s.1,(s.2.1,(s.2.2.1,(s.2.2.2.1,(s.2.2.2.2.1,(s.2.2.2.2.2.1,s.2.2.2.2.2.2)))))) (0,(0,(0,(0,(0,([],0))))))).bind fun r=>
 some r
def qlF:Fun:=
 ⟨56,1,1,
 ⟨r66_,[],[]⟩,
 ⟨[(0,bb)],[],[]⟩,
 fun x=>qgo x⟩
theorem qrs:FO qlF:=fi [] [qjn] 6 [] .nil func56 ⟨⟨qpn,trivial⟩,trivial⟩
def qj8(n:Int)(most:Int):Option (Bool):=
 bif decide (0<=n) then(
 some (decide (n<=most)))
 else(
 some false)
def qrt:Fun:=
 ⟨98,2,1,
 ⟨r63_,[],[]⟩,
 ⟨[(0,bb)],[],[]⟩,
 fun x=>qj8 x.1 x.2⟩
theorem qvQ:FO qrt:=fi [] [] 12 [] .nil func98 ⟨trivial,trivial⟩
def qeh(t:yB3)(v:Int):Option (Int⊕(Unit⊕Bool)):=
 bif decide (v<(t.2.2.2.2.2.length:Int)) then(
 Option.bind (α:=Bool) (
 gd (inB v t.2.2.2.2.2.length)<|
 bif decide (t.2.2.2.2.2.getD v.toNat 0<(-9007199254740992)) then(
 some true)
 else(
 gd (inB v t.2.2.2.2.2.length)<|
 some (decide (9007199254740992<t.2.2.2.2.2.getD v.toNat 0)))) fun s=>
 bif s then(
 some (.inr (.inr false)))
 else(
 some (.inl (wi64 (v+1)))))
 else(
 some (.inr (.inl ())))
def qhP(t:yB3):Option (Bool):=
 (iter (fun x=>qeh t x) 0).bind fun s2=>
 s2.elim (fun s3=>
 (qj8 t.1 255).bind fun r=>
 bif r then(
 (qj8 t.2.1 255).bind fun r2=>
 bif r2 then(
 (qj8 t.2.2.1 2147483648).bind fun r3=>
 bif r3 then(
 (qj8 t.2.2.2.1 1099511627776).bind fun r4=>
 bif r4 then(
 (qj8 t.2.2.2.2.1 63).bind fun r5=>
 bif r5 then(
 some (decide ((t.2.2.2.2.2.length:Int)<=16)))
 else(
 some false))
 else(
 some false))
 else(
 some false))
 else(
 some false))
 else(
 some false))
 (fun s4=>
 some s4)
def qm0:Fun:=
 ⟨57,1,1,
 ⟨[(0,dd tT1)],[],[]⟩,
 ⟨[(0,bb)],[],[]⟩,
 fun x=>qhP x⟩
theorem qr9:FO qm0:=fi [] [qrt] 54 [] ((nn (mm (nn (mm (.mk [] (some (⟨[(1,pt 32 0),(6,kk),(7,ii)],[(32,104,(kp 6))],[]⟩,[⟨.x 0,⟨[(1,pt 32 0)],[(32,104,(kp 6))],[]⟩⟩,⟨.r,⟨[(2,bb)],[],[]⟩⟩])) (nn (nn (mm (mm (nn (mm (.mk [.join [⟨.n,⟨[(1,pt 32 0),(6,kk),(7,kk),(23,bb)],[(32,104,(kp 6))],[]⟩⟩]] none .nil .nil) .nil)) .nil) .nil))) .nil) .nil)) .nil))) func57 ⟨⟨qvQ,trivial⟩,trivial⟩
def qiy(a:yB3)(b:yB3):Option (Bool):=
 bif decide (a.1=b.1) then(
 bif decide (a.2.1<b.2.1) then(
 some true)
 else(
 bif decide (a.2.1=b.2.1) then(
 some (decide (a.2.2.1<b.2.2.1)))
 else(
 some false)))
 else(
 some false)
def qlG:Fun:=
 ⟨99,2,1,
 ⟨[(0,dd tT1),(1,dd tT1)],[],[]⟩,
 ⟨[(0,bb)],[],[]⟩,
 fun x=>qiy x.1 x.2⟩
theorem qru:FO qlG:=fi [] [] 31 [] .nil func99 ⟨trivial,trivial⟩
def qhQ(t:yB3)(k:Int)(l2:List yB3):Option ((Int×List yB3)⊕(Int×List yB3)):=
 Option.bind (α:=Bool×List yB3) (
 bif decide (k<(l2.length:Int)) then(
 gd (inB k l2.length)<|
 some (decide ((l2.getD k.toNat (0,(0,(0,(0,(0,[])))))).1<t.1),l2))
 else(
 some (false,l2))) fun s=>
 bif s.1 then(
 some (.inl (wi64 (k+1),s.2)))
 else(
 some (.inr (k,s.2)))
def qgp(t:yB3)(l:List yB3):Option (Bool×List yB3):=
 (iter (fun x=>qhQ t x.1 x.2) (0,l)).bind fun s2=>
 Option.bind (α:=Bool×List yB3) (
 bif decide (s2.1<(s2.2.length:Int)) then(
 gd (inB s2.1 s2.2.length)<|
 some (decide ((s2.2.getD s2.1.toNat (0,(0,(0,(0,(0,[])))))).1=t.1),s2.2))
 else(
 some (false,s2.2))) fun s3=>
 bif s3.1 then(
 gd (inB s2.1 s3.2.length)<|
 (qiy (s3.2.getD s2.1.toNat (0,(0,(0,(0,(0,[])))))) (t.1,(t.2.1,(t.2.2.1,(t.2.2.2.1,(t.2.2.2.2.1,t.2.2.2.2.2)))))).bind fun r=>
 bif !r then(
 some (false,[]))
 else(
 gd (inB s2.1 s3.2.length)<|
 some (true,s3.2.set s2.1.toNat (t.1,(t.2.1,(t.2.2.1,(t.2.2.2.1,(t.2.2.2.2.1,t.2.2.2.2.2))))))))
 else(
 gd (cutG none (some (.i64,s2.1)) s3.2.length)<|
 gd (fits (0+(s3.2.take s2.1.toNat).length) 64)<|
 gd (fits (([]++(s3.2.take s2.1.toNat)).length+1) 64)<|
 gd (cutG (some (.i64,s2.1)) none s3.2.length)<|
 gd (fits ((([]++(s3.2.take s2.1.toNat))++[(t.1,(t.2.1,(t.2.2.1,(t.2.2.2.1,(t.2.2.2.2.1,t.2.2.2.2.2)))))]).length+(s3.2.drop s2.1.toNat).length) 64)<|
 some (true,(([]++(s3.2.take s2.1.toNat))++[(t.1,(t.2.1,(t.2.2.1,(t.2.2.2.1,(t.2.2.2.2.1,t.2.2.2.2.2)))))])++(s3.2.drop s2.1.toNat)))
def qlH:Fun:=
 ⟨58,2,2,
 ⟨[(0,ow 0),(1,dd tT1)],[],a133_⟩,
 ⟨[(0,ow 1),(1,bb)],[],[(1,.arr 104 tT1)]⟩,
 fun x=>qgp x.1 x.2⟩
theorem qrv:FO qlH:=fi [50] [qlG] 63 [] ((nn (nn (mm (mm (.mk [] (some (⟨[(0,ow 0),(3,pt 64 0),(6,ii)],[(64,104,(kp 6))],a133_⟩,[⟨.x 0,⟨[(0,ow 0),(3,pt 64 0),(6,ii)],[(64,104,(kp 6))],a133_⟩⟩])) (mm (mm (.mk [.join [⟨.n,⟨[(0,ow 0),(3,pt 64 0),(6,kk),(21,bb)],[(64,104,(kp 6))],a133_⟩⟩]] none .nil .nil) .nil) .nil) .nil) .nil) (mm (mm (.mk [.join [⟨.n,⟨[(0,ow 0),(3,pt 64 0),(6,kk),(37,bb)],[(64,104,(kp 6))],a133_⟩⟩]] none .nil .nil) .nil) (mm (.mk [.fz [0]] none .nil .nil) .nil)))))) func58 ⟨⟨qru,trivial⟩,trivial⟩
def qeN(v:Int×Int×Bool×Bool):Option (Bool):=
 bif decide (1<=v.1) then(
 bif decide (v.1<=60) then(
 bif decide (0<=v.2.1) then(
 some (decide (v.2.1<=v.1)))
 else(
 some false))
 else(
 some false))
 else(
 some false)
def qdl:Fun:=
 ⟨153,1,1,
 ⟨[(0,dd tT2)],[],[]⟩,
 ⟨[(0,bb)],[],[]⟩,
 fun x=>qeN x⟩
theorem qei:FO qdl:=fi [] [] 23 [] .nil func153 ⟨trivial,trivial⟩
def qhR(l:yB4)(i:Int):Option (Int⊕(Unit⊕Int)):=
 bif decide (i<(l.length:Int)) then(
 gd (inB i l.length)<|
 (qeN (l.getD i.toNat (0,(0,(false,false))))).bind fun r2=>
 bif !r2 then(
 some (.inr (.inr 20)))
 else(
 some (.inl (wi64 (i+1)))))
 else(
 some (.inr (.inl ())))
def qiz(n:yB0)(l:yB4):Option (Int):=
 (qdQ (n.1,(n.2.1,(n.2.2.1,(n.2.2.2.1,(n.2.2.2.2.1,n.2.2.2.2.2)))))).bind fun r=>
 bif !decide ((l.length:Int)=r) then(
 some 20)
 else(
 (iter (fun x=>qhR l x) 0).bind fun s=>
 s.elim (fun s2=>
 some 0)
 (fun s3=>
 some s3))
def qlI:Fun:=
 ⟨144,2,1,
 ⟨[(0,dd tT0),(1,dd (.sl tT2))],[],[]⟩,
 ⟨[(0,ii)],[],[]⟩,
 fun x=>qiz x.1 x.2⟩
theorem qrw:FO qlI:=fi [] [qgA,qdl] 23 [] ((nn (nn (mm (nn (mm (.mk [] (some (⟨[(1,kk),(5,ii)],[],[]⟩,[⟨.x 0,⟨[],[],[]⟩⟩,⟨.r,⟨[(4,ii)],[],[]⟩⟩])) .nil .nil) .nil)) .nil)))) func144 ⟨⟨qkI,qei,trivial⟩,trivial⟩
def qcF(p:yB7)(i:Int)(l:List Bool):Option ((Int×List Bool)⊕(List Bool)):=
 bif decide (i<(p.1.length:Int)) then(
 gd (inB i p.1.length)<|
 gd (fits (l.length+1) 1)<|
 some (.inl (wi64 (i+1),l++[(!decide (p.1.getD i.toNat 0=0))])))
 else(
 some (.inr l))
def qcG(p:yB7)(i2:Int)(l2:List Bool)(l3:List Bool):Option ((Int×List Bool×List Bool)⊕(List Bool×List Bool)):=
 bif decide (i2<(p.2.1.length:Int)) then(
 gd (inB i2 p.2.1.length)<|
 gd (fits (l3.length+1) 1)<|
 some (.inl (wi64 (i2+1),l2,l3++[(!decide (p.2.1.getD i2.toNat 0=0))])))
 else(
 some (.inr (l2,l3)))
def qfG(p:yB7):Option (List Bool×List Bool):=
 (iter (fun x=>qcF p x.1 x.2) (0,[])).bind fun s=>
 (iter (fun x2=>qcG p x2.1 x2.2.1 x2.2.2) (0,s,[])).bind fun s2=>
 some (s2.1,s2.2)
def qiV:Fun:=
 ⟨146,1,1,
 ⟨[(0,dd tT6)],[],[]⟩,
 ⟨[(0,.agg [.own 0,.own 1])],[],[(0,.arr 4 (.bool)),(1,.arr 4 (.bool))]⟩,
 fun x=>qfG x⟩
theorem qm1:FO qiV:=fi [] [] 43 [] ((nn (nn (mm (nn (mm (.mk [] (some (⟨[(1,pt 32 0),(2,pt 48 0),(3,pt 64 0),(4,ii)],v83_,[(1049,.arr 4 (.bool))]⟩,[⟨.x 0,⟨r49_,v83_,[(1049,.arr 4 (.bool))]⟩⟩])) .nil .nil) .nil)) (mm (nn (mm (.mk [] (some (⟨[(1,pt 32 0),(2,pt 48 0),(3,pt 64 0),(5,ii)],[(32,38,[.keep,.keep,.keep]),(48,206,[.keep,.keep]),(64,206,[.own 1049,.own 1065])],[(1049,.arr 4 (.bool)),(1065,.arr 4 (.bool))]⟩,[⟨.x 2,⟨r39_,[(48,206,[.keep,.keep]),(64,206,[.own 1049,.own 1065])],[(1049,.arr 4 (.bool)),(1065,.arr 4 (.bool))]⟩⟩])) .nil .nil) .nil)) .nil))))) func146 ⟨trivial,trivial⟩
def qjo(l:List Bool×List Bool):Option (List Bool):=
 gd (fits (0+l.1.length) 1)<|
 gd (fits (([]++l.1).length+l.2.length) 1)<|
 some (([]++l.1)++l.2)
def qlJ:Fun:=
 ⟨145,1,1,
 ⟨[(0,dd (.pair (.sl (.bool)) (.sl (.bool))))],[],[]⟩,
 ⟨[(0,ow 0)],[],a152_⟩,
 fun x=>qjo x⟩
theorem qpI:FO qlJ:=fi [3] [] 10 [] .nil func145 ⟨trivial,trivial⟩
def qjp(v:Int×Int×Bool×Bool):Option (Bool):=
 (qeN (v.1,(v.2.1,(v.2.2.1,v.2.2.2)))).bind fun r=>
 bif r then(
 some (decide (v.2.1=v.1)))
 else(
 some false)
def qj9:Fun:=
 ⟨147,1,1,
 ⟨[(0,dd tT2)],[],[]⟩,
 ⟨[(0,bb)],[],[]⟩,
 fun x=>qjp x⟩
theorem qoF:FO qj9:=fi [] [qdl] 12 [] .nil func147 ⟨⟨qei,trivial⟩,trivial⟩
def qg3(n:yB0)(p:yB7)(node:Int):Option (Int×Int):=
 (qeM (n.1,(n.2.1,(n.2.2.1,(n.2.2.2.1,(n.2.2.2.2.1,n.2.2.2.2.2))))) (p.1,(p.2.1,p.2.2))).bind fun r=>
 bif !decide (r=0) then(
 some (0,r))
 else(
 Option.bind (α:=Bool) (
 bif decide (node<0) then(
 some true)
 else(
 some (decide ((n.1.length:Int)<=node)))) fun s=>
 bif s then(
 some (0,8))
 else(
 (qjk (n.1,(n.2.1,(n.2.2.1,(n.2.2.2.1,(n.2.2.2.2.1,n.2.2.2.2.2))))) (p.1,(p.2.1,p.2.2)) node).bind fun r2=>
 some (r2.1,0)))
def qkN:Fun:=
 ⟨192,3,2,
 ⟨r113_,[],[]⟩,
 ⟨r63_,[],[]⟩,
 fun x=>qg3 x.1 x.2.1 x.2.2⟩
theorem qp4:FO qkN:=fi [] [qeg,qj3] 34 [] ((nn (nn (mm (mm (.mk [.join [⟨.n,⟨[(2,kk),(3,pt 64 0),(4,pt 80 0),(25,bb)],v36_,[]⟩⟩]] none .nil .nil) .nil) .nil)))) func192 ⟨⟨qf2,qoB,trivial⟩,trivial⟩
def qlK(n:yB0)(p:yB7)(i:Int):Option (Int⊕(Unit⊕Bool)):=
 bif decide (i<(n.2.2.2.1.length:Int)) then(
 gd (inB i p.2.2.length)<|
 Option.bind (α:=Unit⊕Bool) (
 bif p.2.2.getD i.toNat false then(
 gd (inB i n.2.2.2.1.length)<|
 (qg3 (n.1,(n.2.1,(n.2.2.1,(n.2.2.2.1,(n.2.2.2.2.1,n.2.2.2.2.2))))) (p.1,(p.2.1,p.2.2)) (((n.2.2.2.1.getD i.toNat ([],(0,(0,(0,0))))).2).1)).bind fun r=>
 Option.bind (α:=Bool) (
 bif !decide (r.2=0) then(
 some true)
 else(
 some (decide (r.1=0)))) fun s=>
 bif s then(
 some (.inr false))
 else(
 some (.inl ())))
 else(
 some (.inl ()))) fun s2=>
 s2.elim (fun s3=>
 some (.inl (wi64 (i+1))))
 (fun s4=>
 some (.inr (.inr s4))))
 else(
 some (.inr (.inl ())))
def qjq(n:yB0)(p:yB7):Option (Bool):=
 (iter (fun x=>qlK n p x) 0).bind fun s5=>
 s5.elim (fun s6=>
 some true)
 (fun s7=>
 some s7)
def qiA:Fun:=
 ⟨148,2,1,
 ⟨r64_,[],[]⟩,
 ⟨[(0,bb)],[],[]⟩,
 fun x=>qjq x.1 x.2⟩
theorem qlL:FO qiA:=fi [] [qkN] 38 [] ((nn (mm (nn (mm (.mk [] (some (⟨r104_,v0_,[]⟩,[⟨.x 0,⟨[],[],[]⟩⟩,⟨.r,⟨[(4,bb)],[],[]⟩⟩])) (nn (mm (mm (nn (.mk [.join [⟨.n,⟨[(2,pt 48 0),(3,pt 64 0),(5,kk)],v0_,[]⟩⟩,⟨.r,⟨[(4,bb)],[],[]⟩⟩]] none (nn (mm (.mk [.join [⟨.n,⟨[(2,pt 48 0),(3,pt 64 0),(5,kk),(37,bb)],v0_,[]⟩⟩]] none .nil .nil) .nil)) .nil)) .nil) .nil)) .nil) .nil)) .nil))) func148 ⟨⟨qp4,trivial⟩,trivial⟩
def qbC(d:yB6)(i:Int)(need:List Bool):Option ((Int×List Bool)⊕(Unit⊕Int)):=
 bif decide (i<(need.length:Int)) then(
 Option.bind (α:=Bool×List Bool) (
 gd (inB i need.length)<|
 bif need.getD i.toNat false then(
 gd (inB i d.1.length)<|
 (qjp (d.1.getD i.toNat (0,(0,(false,false))))).bind fun r6=>
 bif !r6 then(
 some (true,need))
 else(
 gd (inB i d.1.length)<|
 some ((!((((d.1.getD i.toNat (0,(0,(false,false)))).2).2).1)),need)))
 else(
 some (false,need))) fun s=>
 bif s.1 then(
 some (.inr (.inr 21)))
 else(
 some (.inl (wi64 (i+1),s.2))))
 else(
 some (.inr (.inl ())))
def qka(n:yB0)(d:yB6):Option (Int):=
 (qeL (n.1,(n.2.1,(n.2.2.1,(n.2.2.2.1,(n.2.2.2.2.1,n.2.2.2.2.2)))))).bind fun r=>
 bif !decide (r=0) then(
 some r)
 else(
 (qiz (n.1,(n.2.1,(n.2.2.1,(n.2.2.2.1,(n.2.2.2.2.1,n.2.2.2.2.2))))) d.1).bind fun r2=>
 bif !decide (r2=0) then(
 some r2)
 else(
 (qeM (n.1,(n.2.1,(n.2.2.1,(n.2.2.2.1,(n.2.2.2.2.1,n.2.2.2.2.2))))) (d.2.1,(d.2.2.1,d.2.2.2))).bind fun r3=>
 bif !decide (r3=0) then(
 some r3)
 else(
 (qfG (d.2.1,(d.2.2.1,d.2.2.2))).bind fun r4=>
 (qjo (r4.1,r4.2)).bind fun r5=>
 (iter (fun x=>qbC d x.1 x.2) (0,r5)).bind fun s2=>
 s2.elim (fun s3=>
 (qjq (n.1,(n.2.1,(n.2.2.1,(n.2.2.2.1,(n.2.2.2.2.1,n.2.2.2.2.2))))) (d.2.1,(d.2.2.1,d.2.2.2))).bind fun r7=>
 bif !r7 then(
 some 21)
 else(
 some 0))
 (fun s4=>
 some s4))))
def qm2:Fun:=
 ⟨100,2,1,
 ⟨[(0,dd tT0),(1,dd (.pair (.sl tT2) tT6))],[],[]⟩,
 ⟨[(0,ii)],[],[]⟩,
 fun x=>qka x.1 x.2⟩
theorem qsa:FO qm2:=fi [] [qef,qlI,qeg,qiV,qlJ,qj9,qiA] 66 [] ((nn (nn (nn (nn (nn (mm (nn (mm (.mk [] (some (⟨[(2,pt 48 0),(3,pt 64 0),(8,ow 528),(9,ii)],v50_,[(528,.arr 4 (.bool))]⟩,[⟨.x 0,⟨r39_,v50_,[]⟩⟩,⟨.r,⟨[(4,ii)],[],[]⟩⟩])) (nn (mm (mm (mm (.mk [.join [⟨.n,⟨[(2,pt 48 0),(3,pt 64 0),(8,ow 528),(9,kk),(60,bb)],v50_,[(528,.arr 4 (.bool))]⟩⟩]] none .nil .nil) .nil) .nil) .nil)) .nil) .nil)) .nil))))))) func100 ⟨⟨qfX,qrw,qf2,qm1,qpI,qoF,qlL,trivial⟩,trivial⟩
def qms(p:yB8):Option (Bool):=
 bif decide (p.1=0) then(
 bif decide (p.2.1=0) then(
 bif decide ((p.2.2.1.length:Int)=0) then(
 some (decide (p.2.2.2=0)))
 else(
 some false))
 else(
 some false))
 else(
 some false)
def qoG:Fun:=
 ⟨149,1,1,
 ⟨[(0,dd tT4)],[],[]⟩,
 ⟨[(0,bb)],[],[]⟩,
 fun x=>qms x⟩
theorem qtw:FO qoG:=fi [] [] 22 [] .nil func149 ⟨trivial,trivial⟩
def qiB(s:yB5):Option (Bool):=
 Option.bind (α:=Bool) (
 bif decide (s.1=1) then(
 some (decide (s.1=1)))
 else(
 Option.bind (α:=Bool) (
 bif decide (s.1=2) then(
 some (decide (s.1=2)))
 else(
 Option.bind (α:=Bool) (
 bif decide (s.1=3) then(
 some (decide (s.1=3)))
 else(
 some (decide (s.1=4)))) fun s2=>
 some s2)) fun s3=>
 some s3)) fun s4=>
 bif s4 then(
 bif decide (s.2.2.1=0) then(
 (qms (s.2.2.2.1,(s.2.2.2.2.1,(s.2.2.2.2.2.1,s.2.2.2.2.2.2)))).bind fun r=>
 some r)
 else(
 some false))
 else(
 bif decide (s.1=5) then(
 bif decide (s.2.1=0) then(
 some (decide (s.2.2.2.2.2.2=0)))
 else(
 some false))
 else(
 bif decide (s.1=6) then(
 bif decide (s.2.1=0) then(
 (qms (s.2.2.2.1,(s.2.2.2.2.1,(s.2.2.2.2.2.1,s.2.2.2.2.2.2)))).bind fun r2=>
 some r2)
 else(
 some false))
 else(
 some false)))
def qlM:Fun:=
 ⟨101,1,1,
 ⟨r66_,[],[]⟩,
 ⟨[(0,bb)],[],[]⟩,
 fun x=>qiB x⟩
theorem qrx:FO qlM:=fi [] [qoG] 39 [] ((nn (mm (nn (mm (mm (nn (.mk [.join [⟨.n,⟨r96_,[(32,58,(kp 7))],[]⟩⟩]] none .nil (nn (.mk [.join [⟨.n,⟨r96_,[(32,58,(kp 7))],[]⟩⟩]] none .nil (nn (.mk [.join [⟨.n,⟨r96_,[(32,58,(kp 7))],[]⟩⟩]] none .nil .nil)))))) .nil) .nil)) .nil))) func101 ⟨⟨qtw,trivial⟩,trivial⟩
def qkb(v:Int×Int×Bool×Bool)(vopen:Bool):Option ((Int×Int×Bool×Bool)×Int):=
 (qeN (v.1,(v.2.1,(v.2.2.1,v.2.2.2)))).bind fun r=>
 bif !r then(
 some ((v.1,(v.2.1,(v.2.2.1,v.2.2.2))),20))
 else(
 some ((v.1,(v.2.1,(vopen,v.2.2.2))),0))
def qkO:Fun:=
 ⟨150,2,2,
 ⟨[(0,dd tT2),(1,bb)],[],[]⟩,
 ⟨r86_,[],[]⟩,
 fun x=>qkb x.1 x.2⟩
theorem qp5:FO qkO:=fi [] [qdl] 13 [] .nil func150 ⟨⟨qei,trivial⟩,trivial⟩
def qmt(d:yB6)(s:yB5):Option (yB6×Int):=
 Option.bind (α:=Bool) (
 bif decide (s.2.1<0) then(
 some true)
 else(
 some (decide ((d.1.length:Int)<=s.2.1)))) fun s2=>
 bif s2 then(
 some ((d.1,(d.2.1,(d.2.2.1,d.2.2.2))),8))
 else(
 Option.bind (α:=Bool) (
 bif decide (s.1=2) then(
 (qfG (d.2.1,(d.2.2.1,d.2.2.2))).bind fun r=>
 (qjo (r.1,r.2)).bind fun r2=>
 gd (inB s.2.1 r2.length)<|
 some (r2.getD s.2.1.toNat false))
 else(
 some false)) fun s3=>
 bif s3 then(
 some ((d.1,(d.2.1,(d.2.2.1,d.2.2.2))),22))
 else(
 (qdS (d.1,(d.2.1,(d.2.2.1,d.2.2.2)))).bind fun r3=>
 gd (inB s.2.1 r3.1.length)<|
 (qkb (r3.1.getD s.2.1.toNat (0,(0,(false,false)))) (decide (s.1=1))).bind fun r4=>
 gd (inB s.2.1 r3.1.length)<|
 some ((r3.1.set s.2.1.toNat r4.1,(r3.2.1,(r3.2.2.1,r3.2.2.2))),0)))
def qoH:Fun:=
 ⟨102,2,2,
 ⟨[(0,dd (.pair (.sl tT2) tT6)),(1,dd (.pair I6 (.pair I6 (.pair I6 tT4))))],[],[]⟩,
 ⟨r57_,[],[]⟩,
 fun x=>qmt x.1 x.2⟩
theorem qtx:FO qoH:=fi [] [qiV,qlJ,qdT,qkO] 54 [] ((nn (mm (mm (.mk [.join [⟨.n,⟨[(2,pt 48 0),(3,pt 64 0),(4,pt 80 0),(17,bb)],v144_,[]⟩⟩]] none .nil .nil) .nil) (mm (mm (.mk [.join [⟨.n,⟨[(2,pt 48 0),(3,pt 64 0),(4,pt 80 0),(31,bb)],v144_,[]⟩⟩]] none .nil .nil) .nil) .nil)))) func102 ⟨⟨qm1,qpI,qfn,qp5,trivial⟩,trivial⟩
def qmu(n:yB0)(d:yB6)(s:yB5):Option (yB6×Int):=
 Option.bind (α:=Bool) (
 bif decide (s.2.1<0) then(
 some true)
 else(
 some (decide ((n.2.2.2.1.length:Int)<=s.2.1)))) fun s2=>
 bif s2 then(
 some ((d.1,(d.2.1,(d.2.2.1,d.2.2.2))),8))
 else(
 (qdS (d.1,(d.2.1,(d.2.2.1,d.2.2.2)))).bind fun r=>
 gd (inB s.2.1 r.2.2.2.length)<|
 (qjq (n.1,(n.2.1,(n.2.2.1,(n.2.2.2.1,(n.2.2.2.2.1,n.2.2.2.2.2))))) (r.2.1,(r.2.2.1,r.2.2.2.set s.2.1.toNat (decide (s.1=3))))).bind fun r2=>
 bif !r2 then(
 some ((d.1,(d.2.1,(d.2.2.1,d.2.2.2))),22))
 else(
 some ((r.1,(r.2.1,(r.2.2.1,r.2.2.2.set s.2.1.toNat (decide (s.1=3))))),0)))
def qoI:Fun:=
 ⟨103,3,2,
 ⟨r35_,[],[]⟩,
 ⟨r57_,[],[]⟩,
 fun x=>qmu x.1 x.2.1 x.2.2⟩
theorem qty:FO qoI:=fi [] [qdT,qiA] 39 [] ((nn (mm (mm (.mk [.join [⟨.n,⟨[(3,pt 64 0),(4,pt 80 0),(5,pt 96 0),(6,pt 112 0),(19,bb)],v44_,[]⟩⟩]] none .nil .nil) .nil) .nil))) func103 ⟨⟨qfn,qlL,trivial⟩,trivial⟩
def qbD(r:Int×Int)(k:Int)(seen2:List Int):Option ((Int×List Int)⊕((List Int)⊕Bool)):=
 bif decide (k<(seen2.length:Int)) then(
 gd (inB k seen2.length)<|
 bif decide (seen2.getD k.toNat 0=r.2) then(
 some (.inr (.inr false)))
 else(
 some (.inl (wi64 (k+1),seen2))))
 else(
 some (.inr (.inl seen2)))
def qcH(n:yB0)(p:yB8)(vat:Int)(i:Int)(seen:List Int):Option ((Int×Int×List Int)⊕(Int⊕Bool)):=
 bif decide (i<(p.2.2.1.length:Int)) then(
 Option.bind (α:=Bool×List Int) (
 gd (inB i p.2.2.1.length)<|
 bif decide ((p.2.2.1.getD i.toNat (0,false)).1<0) then(
 some (true,seen))
 else(
 gd (inB i p.2.2.1.length)<|
 some (decide ((n.2.1.length:Int)<=(p.2.2.1.getD i.toNat (0,false)).1),seen))) fun s2=>
 bif s2.1 then(
 some (.inr (.inr false)))
 else(
 gd (inB i p.2.2.1.length)<|
 (qmq (n.1,(n.2.1,(n.2.2.1,(n.2.2.2.1,(n.2.2.2.2.1,n.2.2.2.2.2))))) (p.2.2.1.getD i.toNat (0,false))).bind fun r=>
 bif !decide (r.1=vat) then(
 some (.inr (.inr false)))
 else(
 (iter (fun x=>qbD r x.1 x.2) (0,s2.2)).bind fun s3=>
 s3.elim (fun s4=>
 gd (fits (s4.length+1) 8)<|
 some (.inl (r.2,wi64 (i+1),s4++[r.2])))
 (fun s5=>
 some (.inr (.inr s5))))))
 else(
 some (.inr (.inl vat)))
def qkc(n:yB0)(p:yB8):Option (Bool):=
 Option.bind (α:=Bool) (
 bif decide (p.1<0) then(
 some true)
 else(
 bif decide ((n.2.2.1.length:Int)<=p.1) then(
 some true)
 else(
 bif decide (p.2.1<0) then(
 some true)
 else(
 bif decide ((n.2.2.1.length:Int)<=p.2.1) then(
 some true)
 else(
 bif decide (p.1=p.2.1) then(
 some true)
 else(
 bif decide (p.2.2.2<1) then(
 some true)
 else(
 bif decide (1000<p.2.2.2) then(
 some true)
 else(
 some (decide (32<(p.2.2.1.length:Int))))))))))) fun s=>
 bif s then(
 some false)
 else(
 gd (inB p.1 n.2.2.1.length)<|
 (iter (fun x2=>qcH n p x2.1 x2.2.1 x2.2.2) (((n.2.2.1.getD p.1.toNat ([],(0,0))).2).1,0,[((n.2.2.1.getD p.1.toNat ([],(0,0))).2).1])).bind fun s6=>
 s6.elim (fun s7=>
 gd (inB p.2.1 n.2.2.1.length)<|
 some (decide (s7=((n.2.2.1.getD p.2.1.toNat ([],(0,0))).2).1)))
 (fun s8=>
 some s8))
def qm3:Fun:=
 ⟨193,2,1,
 ⟨r145_,[],[]⟩,
 ⟨[(0,bb)],[],[]⟩,
 fun x=>qkc x.1 x.2⟩
theorem qsb:FO qm3:=fi [66] [qj5] 132 [] ((nn (mm (mm (.mk [.join [⟨.n,⟨[(2,pt 48 0),(3,pt 64 0),(57,bb)],v73_,[]⟩⟩]] none .nil .nil) .nil) (nn (nn (mm (nn (mm (.mk [] (some (⟨[(2,pt 48 0),(3,pt 64 0),(5,ii),(6,ow 123),(7,ii)],v73_,[(123,.arr 3 I6)]⟩,[⟨.x 0,⟨r104_,v73_,[]⟩⟩,⟨.r,⟨[(4,bb)],[],[]⟩⟩])) (nn (mm (mm (mm (mm (.mk [.join [⟨.n,⟨[(2,pt 48 0),(3,pt 64 0),(5,kk),(6,ow 123),(7,kk),(92,bb)],v73_,[(123,.arr 3 I6)]⟩⟩]] none .nil .nil) .nil) (nn (nn (mm (nn (mm (.mk [] (some (⟨[(2,pt 48 0),(3,pt 64 0),(6,ow 123),(7,kk),(9,kk),(10,ii)],v73_,[(123,.arr 3 I6)]⟩,[⟨.x 2,⟨[(2,pt 48 0),(3,pt 64 0),(6,ow 123),(7,kk),(9,kk)],v73_,[(123,.arr 3 I6)]⟩⟩,⟨.r,⟨[(4,bb)],[],[]⟩⟩])) .nil .nil) .nil)) .nil)))) .nil) .nil)) .nil) .nil)) .nil)))))) func193 ⟨⟨qoC,trivial⟩,trivial⟩
def qkd(n:yB0)(p:yB8):Option (Bool):=
 (qeL (n.1,(n.2.1,(n.2.2.1,(n.2.2.2.1,(n.2.2.2.2.1,n.2.2.2.2.2)))))).bind fun r=>
 bif decide (r=0) then(
 (qkc (n.1,(n.2.1,(n.2.2.1,(n.2.2.2.1,(n.2.2.2.2.1,n.2.2.2.2.2))))) (p.1,(p.2.1,(p.2.2.1,p.2.2.2)))).bind fun r2=>
 some r2)
 else(
 some false)
def qm4:Fun:=
 ⟨151,2,1,
 ⟨r145_,[],[]⟩,
 ⟨[(0,bb)],[],[]⟩,
 fun x=>qkd x.1 x.2⟩
theorem qsc:FO qm4:=fi [] [qef,qm3] 13 [] .nil func151 ⟨⟨qfX,qsb,trivial⟩,trivial⟩
def qcI(p:yB8)(i:Int)(l:List Int):Option ((Int×List Int)⊕(List Int)):=
 bif decide (i<(p.2.2.1.length:Int)) then(
 gd (inB i p.2.2.1.length)<|
 gd (fits (l.length+1) 8)<|
 some (.inl (wi64 (i+1),l++[(p.2.2.1.getD i.toNat (0,false)).1])))
 else(
 some (.inr l))
def qbE(d:yB6)(i2:Int)(l2:List Int):Option ((Int×List Int)⊕(Unit⊕Bool)):=
 bif decide (i2<(l2.length:Int)) then(
 Option.bind (α:=Bool×List Int) (
 gd (inB i2 l2.length)<|
 gd (inB (l2.getD i2.toNat 0) d.1.length)<|
 (qjp (d.1.getD (l2.getD i2.toNat 0).toNat (0,(0,(false,false))))).bind fun r=>
 bif !r then(
 some (true,l2))
 else(
 gd (inB i2 l2.length)<|
 gd (inB (l2.getD i2.toNat 0) d.1.length)<|
 some ((!((((d.1.getD (l2.getD i2.toNat 0).toNat (0,(0,(false,false)))).2).2).1)),l2))) fun s2=>
 bif s2.1 then(
 some (.inr (.inr false)))
 else(
 some (.inl (wi64 (i2+1),s2.2))))
 else(
 some (.inr (.inl ())))
def qke(n:yB0)(d:yB6)(p:yB8):Option (Bool):=
 (iter (fun x=>qcI p x.1 x.2) (0,[wi64 ((n.2.1.length:Int)+p.1),wi64 ((n.2.1.length:Int)+p.2.1)])).bind fun s=>
 (iter (fun x2=>qbE d x2.1 x2.2) (0,s)).bind fun s3=>
 s3.elim (fun s4=>
 some true)
 (fun s5=>
 some s5)
def qm5:Fun:=
 ⟨152,3,1,
 ⟨[(0,dd tT0),(1,dd (.pair (.sl tT2) tT6)),(2,dd tT4)],[],[]⟩,
 ⟨[(0,bb)],[],[]⟩,
 fun x=>qke x.1 x.2.1 x.2.2⟩
theorem qsd:FO qm5:=fi [22] [qj9] 67 [] ((nn (nn (mm (nn (mm (.mk [] (some (⟨[(4,pt 80 0),(5,pt 96 0),(7,ow 139),(8,ii)],[(80,40,(kp 4)),(96,56,(kp 4))],a121_⟩,[⟨.x 0,⟨[(4,pt 80 0),(7,ow 139)],[(80,40,(kp 4))],a121_⟩⟩])) .nil .nil) .nil)) (mm (nn (mm (.mk [] (some (⟨[(4,pt 80 0),(7,ow 139),(9,ii)],[(80,40,(kp 4))],a121_⟩,[⟨.x 2,⟨[],[],[]⟩⟩,⟨.r,⟨[(6,bb)],[],[]⟩⟩])) (nn (mm (mm (mm (.mk [.join [⟨.n,⟨[(4,pt 80 0),(7,ow 139),(9,kk),(66,bb)],[(80,40,(kp 4))],a121_⟩⟩]] none .nil .nil) .nil) .nil) .nil)) .nil) .nil)) .nil))))) func152 ⟨⟨qoF,trivial⟩,trivial⟩
def qb8(d:yB6)(s:yB5)(i:Int)(v:yB4)(v2:List Int)(v3:List Int)(v4:List Bool)(p:List (Int×Bool))(x:yB4)(x2:List Int)(x3:List Int)(x4:List Bool):Option ((Int×yB4×List Int×List Int×List Bool×(List (Int×Bool))×yB4×List Int×List Int×List Bool)⊕((yB4×List Int×List Int×List Bool×yB4×List Int×List Int×List Bool)⊕yB10)):=
 bif decide (i<(p.length:Int)) then(
 gd (inB i p.length)<|
 Option.bind (α:=Int×(List (Int×Bool))×yB4×List Int×List Int×List Bool) (
 bif (p.getD i.toNat (0,false)).2 then(
 some ((-1),p,x,x2,x3,x4))
 else(
 some (1,p,x,x2,x3,x4))) fun s4=>
 gd (inB ((p.getD i.toNat (0,false)).1) d.2.1.length)<|
 Option.bind (α:=Bool×(List (Int×Bool))×yB4×List Int×List Int×List Bool) (
 bif decide (wi64 (s4.1*(d.2.1.getD ((p.getD i.toNat (0,false)).1).toNat 0))<0) then(
 some (true,s4.2.1,s4.2.2.1,s4.2.2.2.1,s4.2.2.2.2.1,s4.2.2.2.2.2))
 else(
 some (decide (wi64 ((wi64 (s4.1*(d.2.1.getD ((p.getD i.toNat (0,false)).1).toNat 0)))+s.2.2.1)<0),s4.2.1,s4.2.2.1,s4.2.2.2.1,s4.2.2.2.2.1,s4.2.2.2.2.2))) fun s5=>
 bif s5.1 then(
 some (.inr (.inr (22,d.1,d.2.1,d.2.2.1,d.2.2.2))))
 else(
 gd (inB ((p.getD i.toNat (0,false)).1) s5.2.2.2.1.length)<|
 some (.inl (wi64 (i+1),v,v2,v3,v4,s5.2.1,s5.2.2.1,s5.2.2.2.1.set (((p.getD i.toNat (0,false)).1).toNat) (wi64 (s4.1*(wi64 ((wi64 (s4.1*(d.2.1.getD ((p.getD i.toNat (0,false)).1).toNat 0)))+s.2.2.1)))),s5.2.2.2.2.1,s5.2.2.2.2.2))))
 else(
 some (.inr (.inl (v,v2,v3,v4,x,x2,x3,x4))))
def qmv(n:yB0)(d:yB6)(s:yB5):Option (yB6×Int):=
 Option.bind (α:=Bool) (
 bif decide (s.2.2.1<(-1000)) then(
 some true)
 else(
 some (decide (1000<s.2.2.1)))) fun s2=>
 bif s2 then(
 some ((d.1,(d.2.1,(d.2.2.1,d.2.2.2))),23))
 else(
 (qjl (s.2.2.2.1,(s.2.2.2.2.1,(s.2.2.2.2.2.1,s.2.2.2.2.2.2)))).bind fun r=>
 (qkd (n.1,(n.2.1,(n.2.2.1,(n.2.2.2.1,(n.2.2.2.2.1,n.2.2.2.2.2))))) (r.1,(r.2.1,(r.2.2.2,max s.2.2.1 (wi64 (0-s.2.2.1)))))).bind fun r2=>
 bif !r2 then(
 some ((d.1,(d.2.1,(d.2.2.1,d.2.2.2))),23))
 else(
 (qdS (d.1,(d.2.1,(d.2.2.1,d.2.2.2)))).bind fun r3=>
 (qke (n.1,(n.2.1,(n.2.2.1,(n.2.2.2.1,(n.2.2.2.2.1,n.2.2.2.2.2))))) (r3.1,(r3.2.1,(r3.2.2.1,r3.2.2.2))) (r.1,(r.2.1,(r.2.2.2,max s.2.2.1 (wi64 (0-s.2.2.1)))))).bind fun r4=>
 bif !r4 then(
 some ((d.1,(d.2.1,(d.2.2.1,d.2.2.2))),22))
 else(
 gd (inB r.1 r3.2.2.1.length)<|
 gd (inB r.1 r3.2.2.1.length)<|
 gd (inB r.2.1 (r3.2.2.1.set r.1.toNat (wi64 ((r3.2.2.1.getD r.1.toNat 0)+s.2.2.1))).length)<|
 gd (inB r.2.1 (r3.2.2.1.set r.1.toNat (wi64 ((r3.2.2.1.getD r.1.toNat 0)+s.2.2.1))).length)<|
 Option.bind (α:=Bool×(List (Int×Bool))×yB4×List Int×List Int×List Bool) (
 gd (inB r.1 ((r3.2.2.1.set r.1.toNat (wi64 ((r3.2.2.1.getD r.1.toNat 0)+s.2.2.1))).set r.2.1.toNat (wi64 (((r3.2.2.1.set r.1.toNat (wi64 ((r3.2.2.1.getD r.1.toNat 0)+s.2.2.1))).getD r.2.1.toNat 0)-s.2.2.1))).length)<|
 bif decide (((r3.2.2.1.set r.1.toNat (wi64 ((r3.2.2.1.getD r.1.toNat 0)+s.2.2.1))).set r.2.1.toNat (wi64 (((r3.2.2.1.set r.1.toNat (wi64 ((r3.2.2.1.getD r.1.toNat 0)+s.2.2.1))).getD r.2.1.toNat 0)-s.2.2.1))).getD r.1.toNat 0<0) then(
 some (true,r.2.2.2,r3.1,r3.2.1,(r3.2.2.1.set r.1.toNat (wi64 ((r3.2.2.1.getD r.1.toNat 0)+s.2.2.1))).set r.2.1.toNat (wi64 (((r3.2.2.1.set r.1.toNat (wi64 ((r3.2.2.1.getD r.1.toNat 0)+s.2.2.1))).getD r.2.1.toNat 0)-s.2.2.1)),r3.2.2.2))
 else(
 gd (inB r.2.1 ((r3.2.2.1.set r.1.toNat (wi64 ((r3.2.2.1.getD r.1.toNat 0)+s.2.2.1))).set r.2.1.toNat (wi64 (((r3.2.2.1.set r.1.toNat (wi64 ((r3.2.2.1.getD r.1.toNat 0)+s.2.2.1))).getD r.2.1.toNat 0)-s.2.2.1))).length)<|
 bif decide (0<((r3.2.2.1.set r.1.toNat (wi64 ((r3.2.2.1.getD r.1.toNat 0)+s.2.2.1))).set r.2.1.toNat (wi64 (((r3.2.2.1.set r.1.toNat (wi64 ((r3.2.2.1.getD r.1.toNat 0)+s.2.2.1))).getD r.2.1.toNat 0)-s.2.2.1))).getD r.2.1.toNat 0) then(
 some (true,r.2.2.2,r3.1,r3.2.1,(r3.2.2.1.set r.1.toNat (wi64 ((r3.2.2.1.getD r.1.toNat 0)+s.2.2.1))).set r.2.1.toNat (wi64 (((r3.2.2.1.set r.1.toNat (wi64 ((r3.2.2.1.getD r.1.toNat 0)+s.2.2.1))).getD r.2.1.toNat 0)-s.2.2.1)),r3.2.2.2))
 else(
 gd (inB r.1 d.2.2.1.length)<|
 bif decide (d.2.2.1.getD r.1.toNat 0<0) then(
 some (true,r.2.2.2,r3.1,r3.2.1,(r3.2.2.1.set r.1.toNat (wi64 ((r3.2.2.1.getD r.1.toNat 0)+s.2.2.1))).set r.2.1.toNat (wi64 (((r3.2.2.1.set r.1.toNat (wi64 ((r3.2.2.1.getD r.1.toNat 0)+s.2.2.1))).getD r.2.1.toNat 0)-s.2.2.1)),r3.2.2.2))
 else(
 gd (inB r.2.1 d.2.2.1.length)<|
 some (decide (0<d.2.2.1.getD r.2.1.toNat 0),r.2.2.2,r3.1,r3.2.1,(r3.2.2.1.set r.1.toNat (wi64 ((r3.2.2.1.getD r.1.toNat 0)+s.2.2.1))).set r.2.1.toNat (wi64 (((r3.2.2.1.set r.1.toNat (wi64 ((r3.2.2.1.getD r.1.toNat 0)+s.2.2.1))).getD r.2.1.toNat 0)-s.2.2.1)),r3.2.2.2))))) fun s3=>
 bif s3.1 then(
 some ((d.1,(d.2.1,(d.2.2.1,d.2.2.2))),22))
 else(
 (iter (fun x5=>qb8 d s x5.1 x5.2.1 x5.2.2.1 x5.2.2.2.1 x5.2.2.2.2.1 x5.2.2.2.2.2.1 x5.2.2.2.2.2.2.1 x5.2.2.2.2.2.2.2.1 x5.2.2.2.2.2.2.2.2.1 x5.2.2.2.2.2.2.2.2.2) (0,[],[],[],[],s3.2.1,s3.2.2.1,s3.2.2.2.1,s3.2.2.2.2.1,s3.2.2.2.2.2)).bind fun s6=>
 s6.elim (fun s7=>
 (qeM (n.1,(n.2.1,(n.2.2.1,(n.2.2.2.1,(n.2.2.2.2.1,n.2.2.2.2.2))))) (s7.2.2.2.2.2.1,(s7.2.2.2.2.2.2.1,s7.2.2.2.2.2.2.2))).bind fun r5=>
 bif !decide (r5=0) then(
 some ((d.1,(d.2.1,(d.2.2.1,d.2.2.2))),r5))
 else(
 (qjq (n.1,(n.2.1,(n.2.2.1,(n.2.2.2.1,(n.2.2.2.2.1,n.2.2.2.2.2))))) (s7.2.2.2.2.2.1,(s7.2.2.2.2.2.2.1,s7.2.2.2.2.2.2.2))).bind fun r6=>
 bif !r6 then(
 some ((d.1,(d.2.1,(d.2.2.1,d.2.2.2))),22))
 else(
 some ((s7.2.2.2.2.1,(s7.2.2.2.2.2.1,(s7.2.2.2.2.2.2.1,s7.2.2.2.2.2.2.2))),0))))
 (fun s8=>
 some ((s8.2.1,(s8.2.2.1,(s8.2.2.2.1,s8.2.2.2.2))),s8.1))))))
def qoJ:Fun:=
 ⟨104,3,2,
 ⟨r35_,[],[]⟩,
 ⟨r57_,[],[]⟩,
 fun x=>qmv x.1 x.2.1 x.2.2⟩
theorem qtz:FO qoJ:=fi [] [qj6,qm4,qdT,qm5,qeg,qiA] 178 [] ((nn (mm (mm (.mk [.join [⟨.n,⟨[(3,pt 64 0),(4,pt 80 0),(5,pt 96 0),(6,pt 112 0),(22,bb)],v44_,[]⟩⟩]] none .nil .nil) .nil) (nn (nn (nn (nn (nn (nn (nn (mm (mm (.mk [.join [⟨.n,⟨[(3,pt 64 0),(4,pt 80 0),(5,pt 96 0),(6,pt 112 0),(8,pt 144 0),(9,pt 160 0),(116,bb)],[(64,32,(kp 6)),(80,40,(kp 4)),(96,58,(kp 7)),(112,40,(kp 4)),(144,56,[.keep,.keep,.own 432,.keep]),(160,40,[.own 656,.own 657,.own 658,.own 659])],a15_⟩⟩]] none .nil .nil) .nil) (mm (nn (mm (.mk [] (some (⟨[(3,pt 64 0),(4,pt 80 0),(5,pt 96 0),(6,pt 112 0),(8,pt 144 0),(9,pt 160 0),(10,ii)],[(64,32,(kp 6)),(80,40,(kp 4)),(96,58,(kp 7)),(112,40,[.data (.sl tT2),.data (.sl I6),.data (.sl I6),.data (.sl (.bool))]),(144,56,[.keep,.keep,.own 432,.keep]),(160,40,[.own 656,.own 657,.own 658,.own 659])],a15_⟩,[⟨.x 0,⟨[(3,pt 64 0),(4,pt 80 0),(6,pt 112 0),(9,pt 160 0)],[(64,32,(kp 6)),(80,40,(kp 4)),(112,40,[.data (.sl tT2),.data (.sl I6),.data (.sl I6),.data (.sl (.bool))]),(160,40,[.own 656,.own 657,.own 658,.own 659])],[(656,.arr 141 tT2),(657,.arr 3 I6),(658,.arr 3 I6),(659,.arr 4 (.bool))]⟩⟩,⟨.r,⟨[(6,pt 112 0),(7,ii)],[(112,40,[.data (.sl tT2),.data (.sl I6),.data (.sl I6),.data (.sl (.bool))])],[]⟩⟩])) (nn (mm (mm (nn (nn (mm (nn (.mk [.join [⟨.n,⟨[(3,pt 64 0),(4,pt 80 0),(5,pt 96 0),(6,pt 112 0),(8,pt 144 0),(9,pt 160 0),(10,kk),(11,pt 192 0),(12,ii)],v22_,a15_⟩⟩]] none .nil .nil)) (nn (mm (mm (.mk [.join [⟨.n,⟨[(3,pt 64 0),(4,pt 80 0),(5,pt 96 0),(6,pt 112 0),(8,pt 144 0),(9,pt 160 0),(10,kk),(11,pt 192 0),(12,kk),(13,kk),(149,bb)],v22_,a15_⟩⟩]] none .nil .nil) .nil) .nil))))) .nil) .nil)) .nil) .nil)) .nil)))))))))))) func104 ⟨⟨qoD,qsc,qfn,qsd,qf2,qlL,trivial⟩,trivial⟩
def qmw(v:Int×Int×Bool×Bool):Option ((Int×Int×Bool×Bool)×Int):=
 (qeN (v.1,(v.2.1,(v.2.2.1,v.2.2.2)))).bind fun r=>
 bif !r then(
 some ((v.1,(v.2.1,(v.2.2.1,v.2.2.2))),20))
 else(
 bif v.2.2.2 then(
 some ((v.1,(v.2.1,(v.2.2.1,v.2.2.2))),0))
 else(
 Option.bind (α:=Bool) (
 bif v.2.2.1 then(
 some (decide (v.2.1<v.1)))
 else(
 some false)) fun s=>
 Option.bind (α:=Int) (
 bif s then(
 some (wi64 (v.2.1+1)))
 else(
 Option.bind (α:=Bool) (
 bif !v.2.2.1 then(
 some (decide (0<v.2.1)))
 else(
 some false)) fun s2=>
 Option.bind (α:=Int) (
 bif s2 then(
 some (wi64 (v.2.1-1)))
 else(
 some v.2.1)) fun s3=>
 some s3)) fun s4=>
 some ((v.1,(s4,(v.2.2.1,v.2.2.2))),0)))
def qoK:Fun:=
 ⟨154,1,2,
 ⟨[(0,dd tT2)],[],[]⟩,
 ⟨r86_,[],[]⟩,
 fun x=>qmw x⟩
theorem qtA:FO qoK:=fi [] [qdl] 37 [] ((nn (nn (nn (mm (mm (.mk [.join [⟨.n,⟨[(1,pt 32 0),(2,pt 48 0),(19,bb)],[(32,141,(kp 4)),(48,141,(kp 4))],[]⟩⟩]] none .nil .nil) (.mk [.join [⟨.n,⟨[(1,pt 32 0),(2,pt 48 0)],v124_,[]⟩⟩]] none .nil (mm (.mk [.join [⟨.n,⟨[(1,pt 32 0),(2,pt 48 0),(31,bb)],[(32,141,(kp 4)),(48,141,(kp 4))],[]⟩⟩]] none .nil .nil) (.mk [.join [⟨.n,⟨[(1,pt 32 0),(2,pt 48 0)],v124_,[]⟩⟩]] none .nil .nil)))) .nil))))) func154 ⟨⟨qei,trivial⟩,trivial⟩
def qc4(ticks:Int)(i:Int)(v2:Int)(v3:Int)(v4:Bool)(v5:Bool):Option ((Int×Int×Int×Bool×Bool)⊕(Int×Int×Bool×Bool)):=
 bif decide (i<ticks) then(
 (qmw (v2,(v3,(v4,v5)))).bind fun r2=>
 some (.inl (wi64 (i+1),r2.1.1,r2.1.2.1,r2.1.2.2.1,r2.1.2.2.2)))
 else(
 some (.inr (v2,v3,v4,v5)))
def qmx(v:Int×Int×Bool×Bool)(ticks:Int):Option ((Int×Int×Bool×Bool)×Int):=
 (qeN (v.1,(v.2.1,(v.2.2.1,v.2.2.2)))).bind fun r=>
 bif !r then(
 some ((v.1,(v.2.1,(v.2.2.1,v.2.2.2))),20))
 else(
 Option.bind (α:=Bool) (
 bif decide (ticks<0) then(
 some true)
 else(
 some (decide (400<ticks)))) fun s=>
 bif s then(
 some ((v.1,(v.2.1,(v.2.2.1,v.2.2.2))),1))
 else(
 (iter (fun x=>qc4 ticks x.1 x.2.1 x.2.2.1 x.2.2.2.1 x.2.2.2.2) (0,v.1,v.2.1,v.2.2.1,v.2.2.2)).bind fun s2=>
 some ((s2.1,(s2.2.1,(s2.2.2.1,s2.2.2.2))),0)))
def qoL:Fun:=
 ⟨105,2,2,
 ⟨r86_,[],[]⟩,
 ⟨r86_,[],[]⟩,
 fun x=>qmx x.1 x.2⟩
theorem qtB:FO qoL:=fi [] [qdl,qoK] 29 [] ((nn (nn (mm (mm (.mk [.join [⟨.n,⟨[(1,kk),(2,pt 48 0),(4,pt 80 0),(16,bb)],[(48,141,(kp 4)),(80,141,(kp 4))],[]⟩⟩]] none .nil .nil) .nil) (mm (nn (mm (.mk [] (some (⟨[(1,kk),(2,pt 48 0),(4,pt 80 0),(6,ii)],v94_,[]⟩,[⟨.x 0,⟨r114_,v94_,[]⟩⟩])) .nil .nil) .nil)) .nil))))) func105 ⟨⟨qei,qtA,trivial⟩,trivial⟩
def qcc(s:yB5)(i:Int)(x:yB4)(x2:List Int)(x3:List Int)(x4:List Bool):Option (yB10⊕(yB4×List Int×List Int×List Bool)):=
 bif decide (i<(x.length:Int)) then(
 gd (inB i x.length)<|
 (qmx (x.getD i.toNat (0,(0,(false,false)))) s.2.2.1).bind fun r7=>
 gd (inB i x.length)<|
 some (.inl (wi64 (i+1),x.set i.toNat r7.1,x2,x3,x4)))
 else(
 some (.inr (x,x2,x3,x4)))
def qhS(n:yB0)(d:yB6)(s:yB5):Option (yB6×Int):=
 (qka (n.1,(n.2.1,(n.2.2.1,(n.2.2.2.1,(n.2.2.2.2.1,n.2.2.2.2.2))))) (d.1,(d.2.1,(d.2.2.1,d.2.2.2)))).bind fun r=>
 bif !decide (r=0) then(
 some ((d.1,(d.2.1,(d.2.2.1,d.2.2.2))),r))
 else(
 (qiB (s.1,(s.2.1,(s.2.2.1,(s.2.2.2.1,(s.2.2.2.2.1,(s.2.2.2.2.2.1,s.2.2.2.2.2.2))))))).bind fun r2=>
 bif !r2 then(
 some ((d.1,(d.2.1,(d.2.2.1,d.2.2.2))),22))
 else(
 Option.bind (α:=Bool) (
 bif decide (s.1=1) then(
 some (decide (s.1=1)))
 else(
 some (decide (s.1=2)))) fun s2=>
 bif s2 then(
 (qmt (d.1,(d.2.1,(d.2.2.1,d.2.2.2))) (s.1,(s.2.1,(s.2.2.1,(s.2.2.2.1,(s.2.2.2.2.1,(s.2.2.2.2.2.1,s.2.2.2.2.2.2))))))).bind fun r3=>
 some ((r3.1.1,(r3.1.2.1,(r3.1.2.2.1,r3.1.2.2.2))),r3.2))
 else(
 Option.bind (α:=Bool) (
 bif decide (s.1=3) then(
 some (decide (s.1=3)))
 else(
 some (decide (s.1=4)))) fun s3=>
 bif s3 then(
 (qmu (n.1,(n.2.1,(n.2.2.1,(n.2.2.2.1,(n.2.2.2.2.1,n.2.2.2.2.2))))) (d.1,(d.2.1,(d.2.2.1,d.2.2.2))) (s.1,(s.2.1,(s.2.2.1,(s.2.2.2.1,(s.2.2.2.2.1,(s.2.2.2.2.2.1,s.2.2.2.2.2.2))))))).bind fun r4=>
 some ((r4.1.1,(r4.1.2.1,(r4.1.2.2.1,r4.1.2.2.2))),r4.2))
 else(
 bif decide (s.1=5) then(
 (qmv (n.1,(n.2.1,(n.2.2.1,(n.2.2.2.1,(n.2.2.2.2.1,n.2.2.2.2.2))))) (d.1,(d.2.1,(d.2.2.1,d.2.2.2))) (s.1,(s.2.1,(s.2.2.1,(s.2.2.2.1,(s.2.2.2.2.1,(s.2.2.2.2.2.1,s.2.2.2.2.2.2))))))).bind fun r5=>
 some ((r5.1.1,(r5.1.2.1,(r5.1.2.2.1,r5.1.2.2.2))),r5.2))
 else(
 Option.bind (α:=Bool) (
 bif decide (s.2.2.1<1) then(
 some true)
 else(
 some (decide (100<s.2.2.1)))) fun s4=>
 bif s4 then(
 some ((d.1,(d.2.1,(d.2.2.1,d.2.2.2))),1))
 else(
 (qdS (d.1,(d.2.1,(d.2.2.1,d.2.2.2)))).bind fun r6=>
 (iter (fun x5=>qcc s x5.1 x5.2.1 x5.2.2.1 x5.2.2.2.1 x5.2.2.2.2) (0,r6.1,r6.2.1,r6.2.2.1,r6.2.2.2)).bind fun s5=>
 some ((s5.1,(s5.2.1,(s5.2.2.1,s5.2.2.2))),0)))))))
def qm6:Fun:=
 ⟨59,3,2,
 ⟨r35_,[],[]⟩,
 ⟨r57_,[],[]⟩,
 fun x=>qhS x.1 x.2.1 x.2.2⟩
theorem qse:FO qm6:=fi [] [qm2,qlM,qoH,qoI,qoJ,qdT,qoL] 83 [] ((nn (nn (nn (mm (nn (mm (mm (nn (.mk [.join [⟨.n,⟨[(3,pt 64 0),(4,pt 80 0),(5,pt 96 0),(6,pt 112 0),(23,kk),(24,bb)],v44_,[]⟩⟩]] none .nil .nil)) (nn (mm (nn (.mk [.join [⟨.n,⟨[(3,pt 64 0),(4,pt 80 0),(5,pt 96 0),(6,pt 112 0),(23,kk),(32,bb)],v44_,[]⟩⟩]] none .nil .nil)) .nil))) .nil)) (mm (mm (.mk [.join [⟨.n,⟨[(4,pt 80 0),(5,pt 96 0),(6,pt 112 0),(56,bb)],[(80,40,(kp 4)),(96,58,(kp 7)),(112,40,(kp 4))],[]⟩⟩]] none .nil .nil) .nil) (nn (mm (nn (mm (.mk [] (some (⟨[(5,pt 96 0),(6,pt 112 0),(9,pt 160 0),(10,ii)],[(96,58,(kp 7)),(112,40,(kp 4)),(160,40,[.own 960,.own 961,.own 962,.own 963])],a97_⟩,[⟨.x 1,⟨[(6,pt 112 0),(9,pt 160 0)],[(112,40,(kp 4)),(160,40,[.own 960,.own 961,.own 962,.own 963])],a97_⟩⟩])) .nil .nil) .nil)) .nil)))))))) func59 ⟨⟨qsa,qrx,qtx,qty,qtz,qfn,qtB,trivial⟩,trivial⟩
def qfH(a:yB2):Option (Bool):=
 bif decide (0<=a.2.1) then(
 bif decide (a.2.1<=1099511627776) then(
 bif decide (0<=a.2.2.1) then(
 bif decide (a.2.2.1<=1099511627776) then(
 bif decide (0<=a.2.2.2.1) then(
 bif decide (a.2.2.2.1<=1099511627776) then(
 bif decide ((-1099511627776)<=a.2.2.2.2) then(
 some (decide (a.2.2.2.2<=1099511627776)))
 else(
 some false))
 else(
 some false))
 else(
 some false))
 else(
 some false))
 else(
 some false))
 else(
 some false))
 else(
 some false)
def qiW:Fun:=
 ⟨108,1,1,
 ⟨[(0,dd tT3)],[],[]⟩,
 ⟨[(0,bb)],[],[]⟩,
 fun x=>qfH x⟩
theorem qm7:FO qiW:=fi [] [] 41 [] .nil func108 ⟨trivial,trivial⟩
def qej(l:List yB2)(i:Int):Option (Int⊕(Unit⊕Bool)):=
 bif decide (i<(l.length:Int)) then(
 Option.bind (α:=Bool) (
 gd (inB i l.length)<|
 (qcq ((l.getD i.toNat ([],(0,(0,(0,0))))).1)).bind fun r=>
 bif !r then(
 some true)
 else(
 gd (inB i l.length)<|
 (qfH (l.getD i.toNat ([],(0,(0,(0,0)))))).bind fun r2=>
 bif !r2 then(
 some true)
 else(
 bif decide (0<i) then(
 gd (inB (wi64 (i-1)) l.length)<|
 gd (inB i l.length)<|
 some (!Op.bytesLess ((l.getD (wi64 (i-1)).toNat ([],(0,(0,(0,0))))).1) ((l.getD i.toNat ([],(0,(0,(0,0))))).1)))
 else(
 some false)))) fun s=>
 bif s then(
 some (.inr (.inr false)))
 else(
 some (.inl (wi64 (i+1)))))
 else(
 some (.inr (.inl ())))
def qkf(l:List yB2):Option (Bool):=
 bif decide (64<(l.length:Int)) then(
 some false)
 else(
 (iter (fun x=>qej l x) 0).bind fun s2=>
 s2.elim (fun s3=>
 some true)
 (fun s4=>
 some s4))
def qm8:Fun:=
 ⟨106,1,1,
 ⟨[(0,dd (.sl tT3))],[],[]⟩,
 ⟨[(0,bb)],[],[]⟩,
 fun x=>qkf x⟩
theorem qsf:FO qm8:=fi [] [qgZ,qiW] 46 [] ((nn (nn (mm (nn (mm (.mk [] (some (⟨[(0,kk),(3,ii)],[],[]⟩,[⟨.x 0,⟨[],[],[]⟩⟩,⟨.r,⟨[(2,bb)],[],[]⟩⟩])) (nn (mm (mm (mm (.mk [.join [⟨.n,⟨[(0,kk),(3,kk),(45,bb)],[],[]⟩⟩]] none .nil .nil) .nil) .nil) .nil)) .nil) .nil)) .nil)))) func106 ⟨⟨qj0,qm7,trivial⟩,trivial⟩
def qhT(e:List UInt8×Int×Int):Option (Bool):=
 (qcq e.1).bind fun r=>
 bif !r then(
 some false)
 else(
 Option.bind (α:=Bool) (
 bif decide (e.2.1=1) then(
 some (decide (e.2.1=1)))
 else(
 Option.bind (α:=Bool) (
 bif decide (e.2.1=2) then(
 some (decide (e.2.1=2)))
 else(
 some (decide (e.2.1=3)))) fun s=>
 some s)) fun s2=>
 bif s2 then(
 bif decide (0<=e.2.2) then(
 some (decide (e.2.2<=1099511627776)))
 else(
 some false))
 else(
 bif decide (e.2.1=4) then(
 bif decide ((-1099511627776)<=e.2.2) then(
 some (decide (e.2.2<=1099511627776)))
 else(
 some false))
 else(
 some false)))
def qm9:Fun:=
 ⟨107,1,1,
 ⟨r132_,[],[]⟩,
 ⟨[(0,bb)],[],[]⟩,
 fun x=>qhT x⟩
theorem qsg:FO qm9:=fi [] [qgZ] 31 [] ((nn (nn (mm (nn (mm (mm (nn (.mk [.join [⟨.n,⟨[(1,pt 32 0),(8,kk),(9,bb)],v117_,[]⟩⟩]] none .nil (nn (.mk [.join [⟨.n,⟨[(1,pt 32 0),(8,kk),(9,bb)],v117_,[]⟩⟩]] none .nil .nil)))) .nil) .nil)) .nil)))) func107 ⟨⟨qj0,trivial⟩,trivial⟩
def qfo(l:List yB2)(e:List UInt8×Int×Int)(k:Int):Option (Int⊕Int):=
 Option.bind (α:=Bool) (
 bif decide (k<(l.length:Int)) then(
 gd (inB k l.length)<|
 some (Op.bytesLess ((l.getD k.toNat ([],(0,(0,(0,0))))).1) e.1))
 else(
 some false)) fun s2=>
 bif s2 then(
 some (.inl (wi64 (k+1))))
 else(
 some (.inr k))
def qfI(l:List yB2)(e:List UInt8×Int×Int):Option ((List yB2)×Int):=
 Option.bind (α:=Bool) (
 (qkf l).bind fun r=>
 bif !r then(
 some true)
 else(
 (qhT (e.1,(e.2.1,e.2.2))).bind fun r2=>
 some (!r2))) fun s=>
 bif s then(
 some (l,27))
 else(
 (iter (fun x=>qfo l e x) 0).bind fun s3=>
 gd (fits (0+l.length) 48)<|
 Option.bind (α:=Bool×List yB2) (
 bif decide (s3=(l.length:Int)) then(
 some (true,([]++l)))
 else(
 gd (inB s3 l.length)<|
 some ((!decide ((l.getD s3.toNat ([],(0,(0,(0,0))))).1=e.1)),([]++l)))) fun s4=>
 Option.bind (α:=List yB2) (
 bif s4.1 then(
 gd (cutG none (some (.i64,s3)) l.length)<|
 gd (fits (0+(l.take s3.toNat).length) 48)<|
 gd (fits (([]++(l.take s3.toNat)).length+1) 48)<|
 gd (cutG (some (.i64,s3)) none l.length)<|
 gd (fits ((([]++(l.take s3.toNat))++[(e.1,(0,(0,(0,0))))]).length+(l.drop s3.toNat).length) 48)<|
 some ((([]++(l.take s3.toNat))++[(e.1,(0,(0,(0,0))))])++(l.drop s3.toNat)))
 else(
 some s4.2)) fun s5=>
 Option.bind (α:=List yB2) (
 bif decide (e.2.1=1) then(
 gd (inB s3 s5.length)<|
 gd (inB s3 s5.length)<|
 some (s5.set s3.toNat ((s5.getD s3.toNat ([],(0,(0,(0,0))))).1,(wi64 ((((s5.getD s3.toNat ([],(0,(0,(0,0))))).2).1)+e.2.2),((s5.getD s3.toNat ([],(0,(0,(0,0))))).2).2))))
 else(
 Option.bind (α:=List yB2) (
 bif decide (e.2.1=2) then(
 gd (inB s3 s5.length)<|
 gd (inB s3 s5.length)<|
 some (s5.set s3.toNat ((s5.getD s3.toNat ([],(0,(0,(0,0))))).1,(((s5.getD s3.toNat ([],(0,(0,(0,0))))).2).1,(wi64 (((((s5.getD s3.toNat ([],(0,(0,(0,0))))).2).2).1)+e.2.2),(((s5.getD s3.toNat ([],(0,(0,(0,0))))).2).2).2)))))
 else(
 Option.bind (α:=List yB2) (
 bif decide (e.2.1=3) then(
 gd (inB s3 s5.length)<|
 gd (inB s3 s5.length)<|
 some (s5.set s3.toNat ((s5.getD s3.toNat ([],(0,(0,(0,0))))).1,(((s5.getD s3.toNat ([],(0,(0,(0,0))))).2).1,((((s5.getD s3.toNat ([],(0,(0,(0,0))))).2).2).1,(wi64 ((((((s5.getD s3.toNat ([],(0,(0,(0,0))))).2).2).2).1)+e.2.2),((((s5.getD s3.toNat ([],(0,(0,(0,0))))).2).2).2).2))))))
 else(
 gd (inB s3 s5.length)<|
 gd (inB s3 s5.length)<|
 some (s5.set s3.toNat ((s5.getD s3.toNat ([],(0,(0,(0,0))))).1,(((s5.getD s3.toNat ([],(0,(0,(0,0))))).2).1,((((s5.getD s3.toNat ([],(0,(0,(0,0))))).2).2).1,(((((s5.getD s3.toNat ([],(0,(0,(0,0))))).2).2).2).1,wi64 ((((((s5.getD s3.toNat ([],(0,(0,(0,0))))).2).2).2).2)+e.2.2)))))))) fun s6=>
 some s6)) fun s7=>
 some s7)) fun s8=>
 Option.bind (α:=Bool×List yB2) (
 bif decide (64<(s8.length:Int)) then(
 some (true,s8))
 else(
 gd (inB s3 s8.length)<|
 (qfH (s8.getD s3.toNat ([],(0,(0,(0,0)))))).bind fun r3=>
 some ((!r3),s8))) fun s9=>
 bif s9.1 then(
 some (l,4))
 else(
 some (s9.2,0)))
def qoM:Fun:=
 ⟨60,2,2,
 ⟨r134_,[],[]⟩,
 ⟨[(0,dd (.sl tT3)),(1,ii)],[],[]⟩,
 fun x=>qfI x.1 x.2⟩
theorem qtC:FO qoM:=fi [33,50] [qm8,qm9,qiW] 133 [] ((nn (mm (mm (.mk [.join [⟨.n,⟨[(0,kk),(3,pt 64 0),(15,bb)],v65_,[]⟩⟩]] none .nil .nil) .nil) (nn (mm (mm (.mk [] (some (⟨[(0,kk),(3,pt 64 0),(6,ii)],v65_,[]⟩,[⟨.x 0,⟨[(0,kk),(3,pt 64 0),(6,ii)],v65_,[]⟩⟩])) (mm (mm (.mk [.join [⟨.n,⟨[(0,kk),(3,pt 64 0),(6,kk),(30,bb)],v65_,[]⟩⟩]] none .nil .nil) .nil) .nil) .nil) .nil) (nn (mm (mm (.mk [.join [⟨.n,⟨[(0,kk),(3,pt 64 0),(6,kk),(7,ow 576),(49,bb)],v65_,[(576,.arr 86 tT3)]⟩⟩]] none .nil .nil) (.mk [.join [⟨.n,⟨[(0,kk),(3,pt 64 0),(6,kk),(7,ow 139)],v65_,a148_⟩⟩]] none .nil .nil)) (mm (nn (mm (nn (.mk [.join [⟨.n,⟨r149_,[],a148_⟩⟩]] none .nil (nn (.mk [.join [⟨.n,⟨r149_,[],a148_⟩⟩]] none .nil (nn (.mk [.join [⟨.n,⟨r149_,[],a148_⟩⟩]] none .nil .nil)))))) .nil)) (mm (mm (.mk [.join [⟨.n,⟨[(0,kk),(7,ow 139),(130,bb)],[],a148_⟩⟩]] none .nil .nil) .nil) .nil))))))))) func60 ⟨⟨qsf,qsg,qm7,trivial⟩,trivial⟩
def qeO(n:yB0)(c:yB1)(r:yB9):Option (yB1×Int):=
 bif decide (c.2.2.2=1000) then(
 some (((c.1.1,(c.1.2.1,(c.1.2.2.1,c.1.2.2.2))),(c.2.1,(c.2.2.1,c.2.2.2))),4))
 else(
 (qmr ((c.1.1,(c.1.2.1,(c.1.2.2.1,c.1.2.2.2))),(c.2.1,(c.2.2.1,c.2.2.2)))).bind fun r2=>
 bif decide (r.1=1) then(
 Option.bind (α:=yB15) (
 bif decide ((r.2.1.length:Int)<5) then(
 some (true,r2.2.1,r2.2.2.1,r2.2.2.2.1,r2.2.2.2.2.1,r2.2.2.2.2.2.1,r2.2.2.2.2.2.2))
 else(
 (qgo (r.2.2.1.1,(r.2.2.1.2.1,(r.2.2.1.2.2.1,(r.2.2.1.2.2.2.1,(r.2.2.1.2.2.2.2.1,(r.2.2.1.2.2.2.2.2.1,r.2.2.1.2.2.2.2.2.2))))))).bind fun r3=>
 bif !r3 then(
 some (true,r2.2.1,r2.2.2.1,r2.2.2.2.1,r2.2.2.2.2.1,r2.2.2.2.2.2.1,r2.2.2.2.2.2.2))
 else(
 some ((!(decide (r.2.2.2.1=[])&&(decide (r.2.2.2.2.1=0)&&decide (r.2.2.2.2.2=0)))),r2.2.1,r2.2.2.1,r2.2.2.2.1,r2.2.2.2.2.1,r2.2.2.2.2.2.1,r2.2.2.2.2.2.2)))) fun s=>
 bif s.1 then(
 some (((c.1.1,(c.1.2.1,(c.1.2.2.1,c.1.2.2.2))),(c.2.1,(c.2.2.1,c.2.2.2))),28))
 else(
 gd (inB 0 r.2.1.length)<|
 gd (inB 1 r.2.1.length)<|
 gd (inB 2 r.2.1.length)<|
 gd (inB 3 r.2.1.length)<|
 gd (inB 4 r.2.1.length)<|
 gd (cutG (some (.i64,5)) none r.2.1.length)<|
 gd (fits (0+(r.2.1.drop 5).length) 8)<|
 (qhP (r.2.1.getD 0 0,(r.2.1.getD 1 0,(r.2.1.getD 2 0,(r.2.1.getD 3 0,(r.2.1.getD 4 0,([]++(r.2.1.drop 5)))))))).bind fun r4=>
 bif !r4 then(
 some (((c.1.1,(c.1.2.1,(c.1.2.2.1,c.1.2.2.2))),(c.2.1,(c.2.2.1,c.2.2.2))),28))
 else(
 (qgp (r.2.1.getD 0 0,(r.2.1.getD 1 0,(r.2.1.getD 2 0,(r.2.1.getD 3 0,(r.2.1.getD 4 0,([]++(r.2.1.drop 5))))))) s.2.2.2.2.2.1).bind fun r5=>
 bif !r5.1 then(
 some (((c.1.1,(c.1.2.1,(c.1.2.2.1,c.1.2.2.2))),(c.2.1,(c.2.2.1,c.2.2.2))),6))
 else(
 some (((s.2.1,(s.2.2.1,(s.2.2.2.1,s.2.2.2.2.1))),(r5.2,(s.2.2.2.2.2.2,wi64 (r2.1+1)))),0)))))
 else(
 bif decide (r.1=2) then(
 Option.bind (α:=yB15) (
 bif decide (0<(r.2.1.length:Int)) then(
 some (true,r2.2.1,r2.2.2.1,r2.2.2.2.1,r2.2.2.2.2.1,r2.2.2.2.2.2.1,r2.2.2.2.2.2.2))
 else(
 some ((!(decide (r.2.2.2.1=[])&&(decide (r.2.2.2.2.1=0)&&decide (r.2.2.2.2.2=0)))),r2.2.1,r2.2.2.1,r2.2.2.2.1,r2.2.2.2.2.1,r2.2.2.2.2.2.1,r2.2.2.2.2.2.2))) fun s2=>
 bif s2.1 then(
 some (((c.1.1,(c.1.2.1,(c.1.2.2.1,c.1.2.2.2))),(c.2.1,(c.2.2.1,c.2.2.2))),28))
 else(
 (qhS (n.1,(n.2.1,(n.2.2.1,(n.2.2.2.1,(n.2.2.2.2.1,n.2.2.2.2.2))))) (s2.2.1,(s2.2.2.1,(s2.2.2.2.1,s2.2.2.2.2.1))) (r.2.2.1.1,(r.2.2.1.2.1,(r.2.2.1.2.2.1,(r.2.2.1.2.2.2.1,(r.2.2.1.2.2.2.2.1,(r.2.2.1.2.2.2.2.2.1,r.2.2.1.2.2.2.2.2.2))))))).bind fun r6=>
 bif !decide (r6.2=0) then(
 some (((c.1.1,(c.1.2.1,(c.1.2.2.1,c.1.2.2.2))),(c.2.1,(c.2.2.1,c.2.2.2))),r6.2))
 else(
 some (((r6.1.1,(r6.1.2.1,(r6.1.2.2.1,r6.1.2.2.2))),(s2.2.2.2.2.2.1,(s2.2.2.2.2.2.2,wi64 (r2.1+1)))),0))))
 else(
 bif decide (r.1=3) then(
 Option.bind (α:=yB15) (
 bif decide (0<(r.2.1.length:Int)) then(
 some (true,r2.2.1,r2.2.2.1,r2.2.2.2.1,r2.2.2.2.2.1,r2.2.2.2.2.2.1,r2.2.2.2.2.2.2))
 else(
 (qgo (r.2.2.1.1,(r.2.2.1.2.1,(r.2.2.1.2.2.1,(r.2.2.1.2.2.2.1,(r.2.2.1.2.2.2.2.1,(r.2.2.1.2.2.2.2.2.1,r.2.2.1.2.2.2.2.2.2))))))).bind fun r7=>
 some ((!r7),r2.2.1,r2.2.2.1,r2.2.2.2.1,r2.2.2.2.2.1,r2.2.2.2.2.2.1,r2.2.2.2.2.2.2))) fun s3=>
 bif s3.1 then(
 some (((c.1.1,(c.1.2.1,(c.1.2.2.1,c.1.2.2.2))),(c.2.1,(c.2.2.1,c.2.2.2))),28))
 else(
 (qfI s3.2.2.2.2.2.2 (r.2.2.2.1,(r.2.2.2.2.1,r.2.2.2.2.2))).bind fun r8=>
 bif !decide (r8.2=0) then(
 some (((c.1.1,(c.1.2.1,(c.1.2.2.1,c.1.2.2.2))),(c.2.1,(c.2.2.1,c.2.2.2))),r8.2))
 else(
 some (((s3.2.1,(s3.2.2.1,(s3.2.2.2.1,s3.2.2.2.2.1))),(s3.2.2.2.2.2.1,(r8.1,wi64 (r2.1+1)))),0))))
 else(
 some (((c.1.1,(c.1.2.1,(c.1.2.2.1,c.1.2.2.2))),(c.2.1,(c.2.2.1,c.2.2.2))),28)))))
def qek:Fun:=
 ⟨29,3,2,
 ⟨r20_,[],[]⟩,
 ⟨r12_,[],[]⟩,
 fun x=>qeO x.1 x.2.1 x.2.2⟩
theorem qf4:FO qek:=fi [65] [qoE,qlF,qm0,qlH,qm6,qoM] 145 [] ((nn (nn (nn (nn (mm (nn (mm (nn (mm (mm (mm (.mk [.join [⟨.n,⟨[(4,pt 80 0),(5,pt 96 0),(6,pt 112 0),(8,pt 144 0),(46,bb)],v47_,a32_⟩⟩]] none .nil .nil) .nil) (nn (nn (nn (mm (.mk [.fz [10]] none .nil .nil) .nil))))) (nn (mm (mm (mm (.mk [.join [⟨.n,⟨[(3,pt 64 0),(4,pt 80 0),(5,pt 96 0),(6,pt 112 0),(8,pt 144 0),(98,bb)],[(64,32,(kp 6)),(80,44,(kp 7)),(96,62,(kp 12)),(112,44,(kp 7)),(144,44,[.own 368,.own 369,.own 370,.own 371,.own 372,.own 373,.keep])],a32_⟩⟩]] none .nil .nil) .nil) (mm (.mk [.fz [8]] none .nil .nil) .nil)) (nn (mm (mm (mm (.mk [.join [⟨.n,⟨[(4,pt 80 0),(5,pt 96 0),(6,pt 112 0),(8,pt 144 0),(127,bb)],v47_,a32_⟩⟩]] none .nil .nil) .nil) (mm (.mk [.fz [8]] none .nil .nil) .nil)) .nil)))))) .nil)) .nil)))))) func29 ⟨⟨qtv,qrs,qr9,qrv,qse,qtC,trivial⟩,trivial⟩
def qgE(n:yB0)(i:Int)(s3:List Int)(s4:Int)(c:yB4)(c2:List Int)(c3:List Int)(c4:List Bool)(c5:List yB3)(c6:List yB2)(c7:Int)(l:List yB9):Option ((Int×List Int×Int×yB4×List Int×List Int×List Bool×(List yB3)×(List yB2)×Int×List yB9)⊕(yB4×List Int×List Int×List Bool×(List yB3)×(List yB2)×Int×List Int×Int×List yB9)):=
 bif decide (0<i) then(
 (qfm (n.1,(n.2.1,(n.2.2.1,(n.2.2.2.1,(n.2.2.2.2.1,n.2.2.2.2.2))))) ((c,(c2,(c3,c4))),(c5,(c6,c7))) s3 s4).bind fun r3=>
 (qeO (n.1,(n.2.1,(n.2.2.1,(n.2.2.2.1,(n.2.2.2.2.1,n.2.2.2.2.2))))) ((c,(c2,(c3,c4))),(c5,(c6,c7))) (r3.1,(r3.2.2.2.2.2.2.2.2.2.2.2.2.2,((r3.2.1,(r3.2.2.1,(r3.2.2.2.1,(r3.2.2.2.2.1,(r3.2.2.2.2.2.1,(r3.2.2.2.2.2.2.1,r3.2.2.2.2.2.2.2.1)))))),(r3.2.2.2.2.2.2.2.2.1,(r3.2.2.2.2.2.2.2.2.2.1,r3.2.2.2.2.2.2.2.2.2.2.1)))))).bind fun r4=>
 Option.bind (α:=yB4×List Int×List Int×List Bool×(List yB3)×(List yB2)×Int×List yB9) (
 bif decide (r4.2=0) then(
 gd (fits (l.length+1) 136)<|
 some (r4.1.1.1,r4.1.1.2.1,r4.1.1.2.2.1,r4.1.1.2.2.2,r4.1.2.1,r4.1.2.2.1,r4.1.2.2.2,l++[(r3.1,(r3.2.2.2.2.2.2.2.2.2.2.2.2.2,((r3.2.1,(r3.2.2.1,(r3.2.2.2.1,(r3.2.2.2.2.1,(r3.2.2.2.2.2.1,(r3.2.2.2.2.2.2.1,r3.2.2.2.2.2.2.2.1)))))),(r3.2.2.2.2.2.2.2.2.1,(r3.2.2.2.2.2.2.2.2.2.1,r3.2.2.2.2.2.2.2.2.2.2.1)))))]))
 else(
 some (c,c2,c3,c4,c5,c6,c7,l))) fun s5=>
 some (.inl (wi64 (i-1),r3.2.2.2.2.2.2.2.2.2.2.2.1,r3.2.2.2.2.2.2.2.2.2.2.2.2.1,s5.1,s5.2.1,s5.2.2.1,s5.2.2.2.1,s5.2.2.2.2.1,s5.2.2.2.2.2.1,s5.2.2.2.2.2.2.1,s5.2.2.2.2.2.2.2)))
 else(
 some (.inr (c,c2,c3,c4,c5,c6,c7,s3,s4,l)))
def qg4(n:yB0)(travel:Int)(most:Int)(s:List Int)(s2:Int):Option (yB1×List Int×Int×List yB9):=
 (qji (n.1,(n.2.1,(n.2.2.1,(n.2.2.2.1,(n.2.2.2.2.1,n.2.2.2.2.2))))) travel).bind fun r=>
 (qab (wi64 (most+1)) s s2).bind fun r2=>
 (iter (fun x=>qgE n x.1 x.2.1 x.2.2.1 x.2.2.2.1 x.2.2.2.2.1 x.2.2.2.2.2.1 x.2.2.2.2.2.2.1 x.2.2.2.2.2.2.2.1 x.2.2.2.2.2.2.2.2.1 x.2.2.2.2.2.2.2.2.2.1 x.2.2.2.2.2.2.2.2.2.2) (r2.1,r2.2.1,r2.2.2,r.1.1.1,r.1.1.2.1,r.1.1.2.2.1,r.1.1.2.2.2,r.1.2.1,r.1.2.2.1,r.1.2.2.2,[])).bind fun s6=>
 some (((s6.1,(s6.2.1,(s6.2.2.1,s6.2.2.2.1))),(s6.2.2.2.2.1,(s6.2.2.2.2.2.1,s6.2.2.2.2.2.2.1))),s6.2.2.2.2.2.2.2.1,s6.2.2.2.2.2.2.2.2.1,s6.2.2.2.2.2.2.2.2.2)
def qkP:Fun:=
 ⟨9,4,2,
 ⟨[(0,pt 0 0),(1,dd tT0),(2,ii),(3,ii)],v3_,[]⟩,
 ⟨[(0,dd (.pair (.pair (.sl tT2) tT6) (.pair (.sl tT1) (.pair (.sl tT3) I6)))),(1,ow 1)],v3_,[(1,.arr 62 (.pair I6 (.pair (.sl I6) (.pair (.pair I6 (.pair I6 (.pair I6 tT4))) (.pair (.str) (.pair I6 I6))))))]⟩,
 fun x=>qg4 x.1 x.2.1 x.2.2.1 x.2.2.2.1 x.2.2.2.2⟩
theorem qp6:FO qkP:=fi [] [qit,qa4,qgD,qek] 51 [] ((nn (nn (nn (mm (nn (mm (.mk [] (some (⟨[(0,pt 0 0),(5,pt 96 0),(8,pt 144 0),(10,pt 176 0),(12,ow 219),(13,ii)],[(0,88,[.data (.sl I6),.data I6]),(96,32,(kp 6)),(144,44,(kp 7)),(176,44,[.data (.sl tT2),.data (.sl I6),.data (.sl I6),.data (.sl (.bool)),.data (.sl tT1),.data (.sl tT3),.data I6])],a37_⟩,[⟨.x 0,⟨[(8,pt 144 0),(10,pt 176 0),(12,ow 219)],[(144,44,(kp 7)),(176,44,[.data (.sl tT2),.data (.sl I6),.data (.sl I6),.data (.sl (.bool)),.data (.sl tT1),.data (.sl tT3),.data I6]),(0,88,[.data (.sl I6),.data I6])],a37_⟩⟩])) (nn (mm (mm (nn (mm (.mk [.fz [14]] none .nil .nil) (nn (.mk [.join [⟨.n,⟨[(0,pt 0 0),(5,pt 96 0),(8,pt 144 0),(10,pt 176 0),(12,ow 219),(13,kk)],[(0,88,[.keep,.keep]),(96,32,(kp 6)),(144,44,(kp 7)),(176,44,[.data (.sl tT2),.data (.sl I6),.data (.sl I6),.data (.sl (.bool)),.data (.sl tT1),.data (.sl tT3),.data I6])],a37_⟩⟩]] none .nil .nil)))) .nil) .nil)) .nil) .nil)) .nil))))) func9 ⟨⟨qlv,qbc,qkM,qf4,trivial⟩,trivial⟩
def qiC(n:Int):Option (Int):=
 bif decide (0<=n) then(
 some (wu64 ((wu64 n)*2)))
 else(
 some (wu64 ((wu64 ((wu64 (wi64 (0-(wi64 (n+1)))))*2))+1)))
def qlN:Fun:=
 ⟨109,1,1,
 ⟨[(0,ii)],[],[]⟩,
 ⟨[(0,dd (.int .u64))],[],[]⟩,
 fun x=>qiC x⟩
theorem qry:FO qlN:=fi [] [] 14 [] .nil func109 ⟨trivial,trivial⟩
def qcR(u:Int)(out:List Int):Option ((Int×List Int)⊕(Int×List Int)):=
 bif decide (128<=u) then(
 gd (fits (out.length+1) 1)<|
 some (.inl (wu64 (Int.tdiv u 128),out++[wu8 (wu64 ((Int.tmod u 128)+128))])))
 else(
 some (.inr (u,out)))
def qgq(b:List Int)(n:Int):Option (List Int):=
 gd (fits (0+b.length) 1)<|
 (qiC n).bind fun r=>
 (iter (fun x=>qcR x.1 x.2) (r,([]++b))).bind fun s=>
 gd (fits (s.2.length+1) 1)<|
 some (s.2++[wu8 s.1])
def qhU:Fun:=
 ⟨61,2,1,
 ⟨r87_,[],[]⟩,
 ⟨[(0,ow 0)],[],a58_⟩,
 fun x=>qgq x.1 x.2⟩
theorem qlO:FO qhU:=fi [7] [qlN] 28 [] ((nn (nn (nn (mm (mm (.mk [] (some (⟨[(5,ow 107),(6,dd (.int .u64))],[],[(107,.arr 5 (.int .u8))]⟩,[⟨.x 0,⟨[(5,ow 107),(6,dd (.int .u64))],[],[(107,.arr 5 (.int .u8))]⟩⟩])) .nil .nil) .nil) .nil))))) func61 ⟨⟨qry,trivial⟩,trivial⟩
def qeV(l:List Int)(i:Int)(b:List Int):Option ((Int×List Int)⊕(List Int)):=
 bif decide (i<(l.length:Int)) then(
 gd (inB i l.length)<|
 (qgq b (l.getD i.toNat 0)).bind fun r=>
 some (.inl (wi64 (i+1),r)))
 else(
 some (.inr b))
def qjr(l:List Int):Option (List Int):=
 (iter (fun x=>qeV l x.1 x.2) (0,[])).bind fun s=>
 some s
def qpJ:Fun:=
 ⟨30,2,1,
 ⟨[(0,.one .nil),(1,dd (.sl I6))],[],[]⟩,
 ⟨[(0,ow 0)],[],a58_⟩,
 fun x=>qjr x⟩
theorem quF:FO qpJ:=fi [] [qhU] 19 [] ((nn (mm (nn (mm (.mk [] (some (⟨[(0,ow 27),(1,kk),(5,ii)],[],[(27,.arr 5 (.int .u8))]⟩,[⟨.x 0,⟨[(0,ow 27)],[],[(27,.arr 5 (.int .u8))]⟩⟩])) .nil .nil) .nil)) .nil))) func30 ⟨⟨qlO,trivial⟩,trivial⟩
def qcl(r:yB9)(i:Int)(l:List Int):Option ((Int×List Int)⊕(List Int)):=
 bif decide (i<(r.2.2.1.2.2.2.2.2.1.length:Int)) then(
 gd (inB i r.2.2.1.2.2.2.2.2.1.length)<|
 Option.bind (α:=Int×List Int) (
 bif (r.2.2.1.2.2.2.2.2.1.getD i.toNat (0,false)).2 then(
 some (1,l))
 else(
 some (0,l))) fun s2=>
 gd (inB i r.2.2.1.2.2.2.2.2.1.length)<|
 gd (fits (s2.2.length+2) 8)<|
 some (.inl (wi64 (i+1),s2.2++[(r.2.2.1.2.2.2.2.2.1.getD i.toNat (0,false)).1,s2.1])))
 else(
 some (.inr l))
def qdG(r:yB9):Option (Int×List Int):=
 Option.bind (α:=Bool) (
 bif decide (21<(r.2.1.length:Int)) then(
 some true)
 else(
 bif decide (32<(r.2.2.1.2.2.2.2.2.1.length:Int)) then(
 some true)
 else(
 some (decide (12<(r.2.2.2.1.length:Int)))))) fun s=>
 bif s then(
 some (4,[]))
 else(
 gd (fits (2+r.2.1.length) 8)<|
 gd (fits (([r.1,(r.2.1.length:Int)]++r.2.1).length+6) 8)<|
 (iter (fun x=>qcl r x.1 x.2) (0,([r.1,(r.2.1.length:Int)]++r.2.1)++[r.2.2.1.1,r.2.2.1.2.1,r.2.2.1.2.2.1,r.2.2.1.2.2.2.1,r.2.2.1.2.2.2.2.1,(r.2.2.1.2.2.2.2.2.1.length:Int)])).bind fun s3=>
 gd (fits (s3.length+4) 8)<|
 (qjr (s3++[r.2.2.1.2.2.2.2.2.2,r.2.2.2.2.1,r.2.2.2.2.2,(r.2.2.2.1.length:Int)])).bind fun r2=>
 gd (Nat.blt 0 (r2.length+r.2.2.2.1.length)&&fits (r2.length+r.2.2.2.1.length) 1)<|
 some (0,r2++qk2 r.2.2.2.1))
def qfp:Fun:=
 ⟨10,1,2,
 ⟨r68_,[],[]⟩,
 ⟨r115_,[],a58_⟩,
 fun x=>qdG x⟩
theorem qhV:FO qfp:=fi [32] [qpJ] 105 [] ((nn (mm (mm (.mk [.join [⟨.n,⟨[(1,pt 32 0),(26,bb)],[(32,62,(kp 12))],[]⟩⟩]] none .nil .nil) .nil) (nn (nn (nn (mm (nn (mm (.mk [] (some (⟨[(1,pt 32 0),(4,ow 91),(5,pt 96 0),(6,ii)],v135_,[(91,.arr 3 I6)]⟩,[⟨.x 0,⟨[(1,pt 32 0),(4,ow 91),(5,pt 96 0)],v135_,[(91,.arr 3 I6)]⟩⟩])) (nn (mm (mm (nn (mm (nn (.mk [.join [⟨.n,⟨[(1,pt 32 0),(4,ow 91),(5,pt 96 0),(6,kk),(7,ii)],v135_,[(91,.arr 3 I6)]⟩⟩]] none .nil .nil)) .nil)) .nil) .nil)) .nil) .nil)) .nil))))))) func10 ⟨⟨quF,trivial⟩,trivial⟩
def qkg(b:List Int):Option (Int×List Int):=
 bif decide (4000<(b.length:Int)) then(
 some (4,[]))
 else(
 (qgq [] (b.length:Int)).bind fun r=>
 gd (fits (r.length+b.length) 1)<|
 some (0,r++b))
def qna:Fun:=
 ⟨31,1,2,
 ⟨r62_,[],[]⟩,
 ⟨r115_,[],a58_⟩,
 fun x=>qkg x⟩
theorem qsh:FO qna:=fi [] [qhU] 12 [] .nil func31 ⟨⟨qlO,trivial⟩,trivial⟩
def qel(u:Int):Option (Int):=
 bif decide (Int.tmod u 2=0) then(
 some (wi64 (wu64 (Int.tdiv u 2))))
 else(
 some (wi64 ((wi64 (0-(wi64 (wu64 (Int.tdiv u 2)))))-1)))
def qjs:Fun:=
 ⟨110,1,1,
 ⟨[(0,dd (.int .u64))],[],[]⟩,
 ⟨[(0,ii)],[],[]⟩,
 fun x=>qel x⟩
theorem qpo:FO qjs:=fi [] [] 14 [] .nil func110 ⟨trivial,trivial⟩
def qbw(b:List Int)(vat:Int)(u:Int)(k:Int):Option ((Int×Int)⊕(Unit⊕(Int×Int×Int))):=
 bif decide (k<10) then(
 bif decide ((b.length:Int)<=wi64 (vat+k)) then(
 some (.inr (.inr (0,0,2))))
 else(
 gd (inB (wi64 (vat+k)) b.length)<|
 Option.bind (α:=Bool) (
 bif decide (k=9) then(
 some (decide (1<b.getD (wi64 (vat+k)).toNat 0)))
 else(
 some false)) fun s2=>
 bif s2 then(
 some (.inr (.inr (0,0,3))))
 else(
 gd (!decide (wi64 (7*k)<0))<|
 bif decide (b.getD (wi64 (vat+k)).toNat 0<128) then(
 Option.bind (α:=Bool) (
 bif decide (b.getD (wi64 (vat+k)).toNat 0=0) then(
 some (decide (0<k)))
 else(
 some false)) fun s3=>
 bif s3 then(
 some (.inr (.inr (0,0,3))))
 else(
 (qel (wu64 (u+(wu64 ((wu64 (Int.tmod (b.getD (wi64 (vat+k)).toNat 0) 128))*2^shAmt .u64 (wi64 (7*k))))))).bind fun r=>
 some (.inr (.inr (r,wi64 ((wi64 (vat+k))+1),0)))))
 else(
 some (.inl (wu64 (u+(wu64 ((wu64 (Int.tmod (b.getD (wi64 (vat+k)).toNat 0) 128))*2^shAmt .u64 (wi64 (7*k))))),wi64 (k+1)))))))
 else(
 some (.inr (.inl ())))
def qjt(b:List Int)(vat:Int):Option (Int×Int×Int):=
 Option.bind (α:=Bool) (
 bif decide (vat<0) then(
 some true)
 else(
 some (decide ((b.length:Int)<vat)))) fun s=>
 bif s then(
 some (0,0,1))
 else(
 (iter (fun x=>qbw b vat x.1 x.2) (0,0)).bind fun s4=>
 s4.elim (fun s5=>
 some (0,0,3))
 (fun s6=>
 some (s6.1,s6.2.1,s6.2.2)))
def qlP:Fun:=
 ⟨62,2,3,
 ⟨r87_,[],[]⟩,
 ⟨r141_,[],[]⟩,
 fun x=>qjt x.1 x.2⟩
theorem qpK:FO qlP:=fi [] [qjs] 62 [] ((nn (mm (mm (.mk [.join [⟨.n,⟨[(0,kk),(1,kk),(17,bb)],[],[]⟩⟩]] none .nil .nil) .nil) (nn (mm (nn (mm (.mk [] (some (⟨[(0,kk),(1,kk),(7,dd (.int .u64)),(8,ii)],[],[]⟩,[⟨.x 0,⟨[],[],[]⟩⟩,⟨.r,⟨[(4,ii),(5,ii),(6,ii)],[],[]⟩⟩])) (nn (mm (mm (nn (nn (mm (mm (.mk [.join [⟨.n,⟨[(0,kk),(1,kk),(7,kk),(8,kk),(9,kk),(39,bb)],[],[]⟩⟩]] none .nil .nil) .nil) (nn (nn (mm (mm (mm (.mk [.join [⟨.n,⟨[(1,kk),(7,kk),(8,kk),(55,bb)],[],[]⟩⟩]] none .nil .nil) .nil) .nil) .nil)))))) .nil) .nil)) .nil) .nil)) .nil))))) func62 ⟨⟨qpo,trivial⟩,trivial⟩
def qkh(b:List Int)(vat:Int)(out:List (List Int)):Option ((Int×List (List Int))⊕(Int×List (List Int))):=
 bif decide (vat<(b.length:Int)) then(
 (qjt b vat).bind fun r=>
 Option.bind (α:=Bool×List (List Int)) (
 bif !decide (r.2.2=0) then(
 some (true,out))
 else(
 bif decide (r.1<0) then(
 some (true,out))
 else(
 bif decide (4000<r.1) then(
 some (true,out))
 else(
 some (decide (wi64 ((b.length:Int)-r.2.1)<r.1),out))))) fun s=>
 bif s.1 then(
 some (.inr (vat,s.2)))
 else(
 gd (inR r.2.1 (wi64 (r.2.1+r.1)) b.length)<|
 gd (fits (0+((b.take (wi64 (r.2.1+r.1)).toNat).drop r.2.1.toNat).length) 1)<|
 gd (fits (s.2.length+1) 24)<|
 some (.inl (wi64 (r.2.1+r.1),s.2++[([]++((b.take (wi64 (r.2.1+r.1)).toNat).drop r.2.1.toNat))]))))
 else(
 some (.inr (vat,out)))
def qju(b:List Int):Option (Int×List (List Int)):=
 (iter (fun x=>qkh b x.1 x.2) (0,[])).bind fun s2=>
 some (s2.1,s2.2)
def qki:Fun:=
 ⟨32,1,2,
 ⟨r62_,[],[]⟩,
 ⟨r115_,[],a125_⟩,
 fun x=>qju x⟩
theorem qoN:FO qki:=fi [39,1000046] [qlP] 54 [] ((nn (nn (nn (mm (mm (.mk [] (some (⟨[(0,kk),(4,ow 91),(5,ii)],[],a80_⟩,[⟨.x 0,⟨[(4,ow 91),(5,ii)],[],a80_⟩⟩])) (nn (mm (nn (mm (mm (.mk [.join [⟨.n,⟨r131_,[],a80_⟩⟩]] none .nil .nil) .nil) .nil)) .nil)) .nil) .nil) .nil))))) func32 ⟨⟨qpK,trivial⟩,trivial⟩
def qgr(f:List Int×List Int)(b:List Int):Option ((List Int×List Int)×Int):=
 (qkg b).bind fun r=>
 bif !decide (r.1=0) then(
 some ((f.1,f.2),r.1))
 else(
 (qju f.1).bind fun r2=>
 bif !decide (r2.1=(f.1.length:Int)) then(
 some ((f.1,f.2),21))
 else(
 bif decide (65536<wi64 ((wi64 ((f.1.length:Int)+(f.2.length:Int)))+(r.2.length:Int))) then(
 some ((f.1,f.2),29))
 else(
 gd (fits (0+f.1.length) 1)<|
 gd (fits (0+f.2.length) 1)<|
 gd (fits (([]++f.2).length+r.2.length) 1)<|
 some ((([]++f.1),([]++f.2)++r.2),0))))
def qhW:Fun:=
 ⟨11,2,2,
 ⟨r103_,[],[]⟩,
 ⟨r59_,[],[]⟩,
 fun x=>qgr x.1 x.2⟩
theorem qlQ:FO qhW:=fi [43,47] [qna,qki] 54 [] .nil func11 ⟨⟨qsh,qoN,trivial⟩,trivial⟩
def qjv(f:List Int×List Int):Option (List Int×List Int):=
 (qhA (f.1,f.2) (f.2.length:Int)).bind fun r=>
 some (r.1,r.2)
def qkj:Fun:=
 ⟨12,1,1,
 ⟨r19_,[],[]⟩,
 ⟨[(0,.agg [.own 0,.data (.sl (.int .u8))])],[],a58_⟩,
 fun x=>qjv x⟩
theorem qoO:FO qkj:=fi [] [qiR] 8 [] .nil func12 ⟨⟨qmT,trivial⟩,trivial⟩
def qcr(n:Int)(k:Int):Option (Int):=
 (qoy n k).bind fun r=>
 some r
def qoP:Fun:=
 ⟨14,2,1,
 ⟨r63_,[],[]⟩,
 ⟨[(0,ii)],[],[]⟩,
 fun x=>qcr x.1 x.2⟩
theorem qtD:FO qoP:=fi [] [qnr] 8 [] .nil func14 ⟨⟨qrj,trivial⟩,trivial⟩
def qjw(s3:List Int)(s4:Int)(n2:List (List UInt8))(n3:List yT0)(n4:yB13)(n5:List yB2)(x:List (Int×Int×Int)):Option ((List Int×Int×List (List UInt8)×(List yT0)×yB13×(List yB2)×List (Int×Int×Int))⊕(List Int×Int×List (List UInt8)×(List yT0)×yB13×(List yB2)×List (Int×Int×Int))):=
 (qab 2 s3 s4).bind fun r25=>
 bif decide ((n2.length:Int)<=wi64 (23+r25.1)) then(
 (qdC [121] (n2.length:Int)).bind fun r26=>
 (qdC [] (wi64 (Int.tdiv (n2.length:Int) 26))).bind fun r27=>
 gd (Nat.ble (r26.length+r27.length) 9223372036854775807)<|
 gd (fits (n2.length+1) 16)<|
 some (.inl (r25.2.1,r25.2.2,n2++[r26++r27],n3,n4,n5,x)))
 else(
 some (.inr (r25.2.1,r25.2.2,n2,n3,n4,n5,x)))
def qf5(n:yB0)(s:List Int)(s2:Int):Option (yB0×List Int×Int):=
 gd (fits (0+n.1.length) 16)<|
 gd (fits (0+n.2.1.length) 80)<|
 gd (fits (0+n.2.2.1.length) 32)<|
 gd (fits (0+n.2.2.2.1.length) 48)<|
 (qab (([]++n.2.1).length:Int) s s2).bind fun r=>
 gd (inB r.1 ([]++n.2.1).length)<|
 gd (fits (0+(((((((([]++n.2.1).getD r.1.toNat ([],(0,(0,(0,(0,(0,[]))))))).2).2).2).2).2).2).length) 24)<|
 (qab 12 r.2.1 r.2.2).bind fun r2=>
 Option.bind (α:=Int×Int×Int×Int×Int×Int×(List (Int×Int×Int))×List Int×Int×List (List UInt8)×(List yT0)×yB13×List yB2) (
 bif decide (r2.1=0) then(
 (qab (([]++n.1).length:Int) r2.2.1 r2.2.2).bind fun r3=>
 (qb7 ([[],[110,97],[65],[120,45,57]]:List (List UInt8)) r3.2.1 r3.2.2).bind fun r4=>
 gd (inB r3.1 ([]++n.1).length)<|
 some (n.2.2.2.2.1,n.2.2.2.2.2,((([]++n.2.1).getD r.1.toNat ([],(0,(0,(0,(0,(0,[]))))))).2).1,((((([]++n.2.1).getD r.1.toNat ([],(0,(0,(0,(0,(0,[]))))))).2).2).2).1,(((((([]++n.2.1).getD r.1.toNat ([],(0,(0,(0,(0,(0,[]))))))).2).2).2).2).1,((((((([]++n.2.1).getD r.1.toNat ([],(0,(0,(0,(0,(0,[]))))))).2).2).2).2).2).1,([]++(((((((([]++n.2.1).getD r.1.toNat ([],(0,(0,(0,(0,(0,[]))))))).2).2).2).2).2).2)),r4.2.1,r4.2.2,([]++n.1).set r3.1.toNat r4.1,([]++n.2.1),([]++n.2.2.1),([]++n.2.2.2.1)))
 else(
 bif decide (r2.1=1) then(
 (qac [(-1),(((([]++n.2.1).getD r.1.toNat ([],(0,(0,(0,(0,(0,[]))))))).2).2).1,(([]++n.1).length:Int),0] r2.2.1 r2.2.2).bind fun r5=>
 some (n.2.2.2.2.1,n.2.2.2.2.2,r5.1,((((([]++n.2.1).getD r.1.toNat ([],(0,(0,(0,(0,(0,[]))))))).2).2).2).1,(((((([]++n.2.1).getD r.1.toNat ([],(0,(0,(0,(0,(0,[]))))))).2).2).2).2).1,((((((([]++n.2.1).getD r.1.toNat ([],(0,(0,(0,(0,(0,[]))))))).2).2).2).2).2).1,([]++(((((((([]++n.2.1).getD r.1.toNat ([],(0,(0,(0,(0,(0,[]))))))).2).2).2).2).2).2)),r5.2.1,r5.2.2,([]++n.1),([]++n.2.1),([]++n.2.2.1),([]++n.2.2.2.1)))
 else(
 bif decide (r2.1=2) then(
 (qac [0,(-1),wi64 ((((((([]++n.2.1).getD r.1.toNat ([],(0,(0,(0,(0,(0,[]))))))).2).2).2).1)+1),1000001] r2.2.1 r2.2.2).bind fun r6=>
 some (n.2.2.2.2.1,n.2.2.2.2.2,((([]++n.2.1).getD r.1.toNat ([],(0,(0,(0,(0,(0,[]))))))).2).1,r6.1,(((((([]++n.2.1).getD r.1.toNat ([],(0,(0,(0,(0,(0,[]))))))).2).2).2).2).1,((((((([]++n.2.1).getD r.1.toNat ([],(0,(0,(0,(0,(0,[]))))))).2).2).2).2).2).1,([]++(((((((([]++n.2.1).getD r.1.toNat ([],(0,(0,(0,(0,(0,[]))))))).2).2).2).2).2).2)),r6.2.1,r6.2.2,([]++n.1),([]++n.2.1),([]++n.2.2.1),([]++n.2.2.2.1)))
 else(
 bif decide (r2.1=3) then(
 (qac ([(-1),1000,1001]:List Int) r2.2.1 r2.2.2).bind fun r7=>
 some (n.2.2.2.2.1,n.2.2.2.2.2,((([]++n.2.1).getD r.1.toNat ([],(0,(0,(0,(0,(0,[]))))))).2).1,((((([]++n.2.1).getD r.1.toNat ([],(0,(0,(0,(0,(0,[]))))))).2).2).2).1,r7.1,((((((([]++n.2.1).getD r.1.toNat ([],(0,(0,(0,(0,(0,[]))))))).2).2).2).2).2).1,([]++(((((((([]++n.2.1).getD r.1.toNat ([],(0,(0,(0,(0,(0,[]))))))).2).2).2).2).2).2)),r7.2.1,r7.2.2,([]++n.1),([]++n.2.1),([]++n.2.2.1),([]++n.2.2.2.1)))
 else(
 bif decide (r2.1=4) then(
 (qac ([(-1),100000,100001]:List Int) r2.2.1 r2.2.2).bind fun r8=>
 some (n.2.2.2.2.1,n.2.2.2.2.2,((([]++n.2.1).getD r.1.toNat ([],(0,(0,(0,(0,(0,[]))))))).2).1,((((([]++n.2.1).getD r.1.toNat ([],(0,(0,(0,(0,(0,[]))))))).2).2).2).1,(((((([]++n.2.1).getD r.1.toNat ([],(0,(0,(0,(0,(0,[]))))))).2).2).2).2).1,r8.1,([]++(((((((([]++n.2.1).getD r.1.toNat ([],(0,(0,(0,(0,(0,[]))))))).2).2).2).2).2).2)),r8.2.1,r8.2.2,([]++n.1),([]++n.2.1),([]++n.2.2.1),([]++n.2.2.2.1)))
 else(
 bif decide (r2.1=5) then(
 bif decide (0<(([]++(((((((([]++n.2.1).getD r.1.toNat ([],(0,(0,(0,(0,(0,[]))))))).2).2).2).2).2).2)).length:Int)) then(
 (qab (([]++(((((((([]++n.2.1).getD r.1.toNat ([],(0,(0,(0,(0,(0,[]))))))).2).2).2).2).2).2)).length:Int) r2.2.1 r2.2.2).bind fun r9=>
 (qac [(-1),0,1,((((([]++n.2.1).getD r.1.toNat ([],(0,(0,(0,(0,(0,[]))))))).2).2).2).1] r9.2.1 r9.2.2).bind fun r10=>
 gd (inB r9.1 ([]++(((((((([]++n.2.1).getD r.1.toNat ([],(0,(0,(0,(0,(0,[]))))))).2).2).2).2).2).2)).length)<|
 some (n.2.2.2.2.1,n.2.2.2.2.2,((([]++n.2.1).getD r.1.toNat ([],(0,(0,(0,(0,(0,[]))))))).2).1,((((([]++n.2.1).getD r.1.toNat ([],(0,(0,(0,(0,(0,[]))))))).2).2).2).1,(((((([]++n.2.1).getD r.1.toNat ([],(0,(0,(0,(0,(0,[]))))))).2).2).2).2).1,((((((([]++n.2.1).getD r.1.toNat ([],(0,(0,(0,(0,(0,[]))))))).2).2).2).2).2).1,([]++(((((((([]++n.2.1).getD r.1.toNat ([],(0,(0,(0,(0,(0,[]))))))).2).2).2).2).2).2)).set r9.1.toNat (r10.1,(([]++(((((((([]++n.2.1).getD r.1.toNat ([],(0,(0,(0,(0,(0,[]))))))).2).2).2).2).2).2)).getD r9.1.toNat (0,(0,0))).2),r10.2.1,r10.2.2,([]++n.1),([]++n.2.1),([]++n.2.2.1),([]++n.2.2.2.1)))
 else(
 some (n.2.2.2.2.1,n.2.2.2.2.2,((([]++n.2.1).getD r.1.toNat ([],(0,(0,(0,(0,(0,[]))))))).2).1,((((([]++n.2.1).getD r.1.toNat ([],(0,(0,(0,(0,(0,[]))))))).2).2).2).1,(((((([]++n.2.1).getD r.1.toNat ([],(0,(0,(0,(0,(0,[]))))))).2).2).2).2).1,((((((([]++n.2.1).getD r.1.toNat ([],(0,(0,(0,(0,(0,[]))))))).2).2).2).2).2).1,([]++(((((((([]++n.2.1).getD r.1.toNat ([],(0,(0,(0,(0,(0,[]))))))).2).2).2).2).2).2)),r2.2.1,r2.2.2,([]++n.1),([]++n.2.1),([]++n.2.2.1),([]++n.2.2.2.1))))
 else(
 bif decide (r2.1=6) then(
 (qab (min 3 (wi64 ((([]++(((((((([]++n.2.1).getD r.1.toNat ([],(0,(0,(0,(0,(0,[]))))))).2).2).2).2).2).2)).length:Int)+1))) r2.2.1 r2.2.2).bind fun r11=>
 gd (cutG none (some (.i64,r11.1)) ([]++(((((((([]++n.2.1).getD r.1.toNat ([],(0,(0,(0,(0,(0,[]))))))).2).2).2).2).2).2)).length)<|
 some (n.2.2.2.2.1,n.2.2.2.2.2,((([]++n.2.1).getD r.1.toNat ([],(0,(0,(0,(0,(0,[]))))))).2).1,((((([]++n.2.1).getD r.1.toNat ([],(0,(0,(0,(0,(0,[]))))))).2).2).2).1,(((((([]++n.2.1).getD r.1.toNat ([],(0,(0,(0,(0,(0,[]))))))).2).2).2).2).1,((((((([]++n.2.1).getD r.1.toNat ([],(0,(0,(0,(0,(0,[]))))))).2).2).2).2).2).1,([]++(((((((([]++n.2.1).getD r.1.toNat ([],(0,(0,(0,(0,(0,[]))))))).2).2).2).2).2).2)).take r11.1.toNat,r11.2.1,r11.2.2,([]++n.1),([]++n.2.1),([]++n.2.2.1),([]++n.2.2.2.1)))
 else(
 bif decide (r2.1=7) then(
 bif decide (0<(([]++(((((((([]++n.2.1).getD r.1.toNat ([],(0,(0,(0,(0,(0,[]))))))).2).2).2).2).2).2)).length:Int)) then(
 (qab (([]++(((((((([]++n.2.1).getD r.1.toNat ([],(0,(0,(0,(0,(0,[]))))))).2).2).2).2).2).2)).length:Int) r2.2.1 r2.2.2).bind fun r12=>
 (qac ([(-501),(-500),5000,5001]:List Int) r12.2.1 r12.2.2).bind fun r13=>
 gd (inB r12.1 ([]++(((((((([]++n.2.1).getD r.1.toNat ([],(0,(0,(0,(0,(0,[]))))))).2).2).2).2).2).2)).length)<|
 some (n.2.2.2.2.1,n.2.2.2.2.2,((([]++n.2.1).getD r.1.toNat ([],(0,(0,(0,(0,(0,[]))))))).2).1,((((([]++n.2.1).getD r.1.toNat ([],(0,(0,(0,(0,(0,[]))))))).2).2).2).1,(((((([]++n.2.1).getD r.1.toNat ([],(0,(0,(0,(0,(0,[]))))))).2).2).2).2).1,((((((([]++n.2.1).getD r.1.toNat ([],(0,(0,(0,(0,(0,[]))))))).2).2).2).2).2).1,([]++(((((((([]++n.2.1).getD r.1.toNat ([],(0,(0,(0,(0,(0,[]))))))).2).2).2).2).2).2)).set r12.1.toNat ((([]++(((((((([]++n.2.1).getD r.1.toNat ([],(0,(0,(0,(0,(0,[]))))))).2).2).2).2).2).2)).getD r12.1.toNat (0,(0,0))).1,(r13.1,((([]++(((((((([]++n.2.1).getD r.1.toNat ([],(0,(0,(0,(0,(0,[]))))))).2).2).2).2).2).2)).getD r12.1.toNat (0,(0,0))).2).2)),r13.2.1,r13.2.2,([]++n.1),([]++n.2.1),([]++n.2.2.1),([]++n.2.2.2.1)))
 else(
 some (n.2.2.2.2.1,n.2.2.2.2.2,((([]++n.2.1).getD r.1.toNat ([],(0,(0,(0,(0,(0,[]))))))).2).1,((((([]++n.2.1).getD r.1.toNat ([],(0,(0,(0,(0,(0,[]))))))).2).2).2).1,(((((([]++n.2.1).getD r.1.toNat ([],(0,(0,(0,(0,(0,[]))))))).2).2).2).2).1,((((((([]++n.2.1).getD r.1.toNat ([],(0,(0,(0,(0,(0,[]))))))).2).2).2).2).2).1,([]++(((((((([]++n.2.1).getD r.1.toNat ([],(0,(0,(0,(0,(0,[]))))))).2).2).2).2).2).2)),r2.2.1,r2.2.2,([]++n.1),([]++n.2.1),([]++n.2.2.1),([]++n.2.2.2.1))))
 else(
 bif decide (r2.1=8) then(
 bif decide (0<(([]++n.2.2.1).length:Int)) then(
 (qab (([]++n.2.2.1).length:Int) r2.2.1 r2.2.2).bind fun r14=>
 (qb7 ([[113,97],[113,98],[],[122]]:List (List UInt8)) r14.2.1 r14.2.2).bind fun r15=>
 (qac [(-1),0,1,(([]++n.1).length:Int)] r15.2.1 r15.2.2).bind fun r16=>
 (qac ([0,(-1),100000000,100000001]:List Int) r16.2.1 r16.2.2).bind fun r17=>
 gd (inB r14.1 ([]++n.2.2.1).length)<|
 some (n.2.2.2.2.1,n.2.2.2.2.2,((([]++n.2.1).getD r.1.toNat ([],(0,(0,(0,(0,(0,[]))))))).2).1,((((([]++n.2.1).getD r.1.toNat ([],(0,(0,(0,(0,(0,[]))))))).2).2).2).1,(((((([]++n.2.1).getD r.1.toNat ([],(0,(0,(0,(0,(0,[]))))))).2).2).2).2).1,((((((([]++n.2.1).getD r.1.toNat ([],(0,(0,(0,(0,(0,[]))))))).2).2).2).2).2).1,([]++(((((((([]++n.2.1).getD r.1.toNat ([],(0,(0,(0,(0,(0,[]))))))).2).2).2).2).2).2)),r17.2.1,r17.2.2,([]++n.1),([]++n.2.1),([]++n.2.2.1).set r14.1.toNat (r15.1,(r16.1,r17.1)),([]++n.2.2.2.1)))
 else(
 some (n.2.2.2.2.1,n.2.2.2.2.2,((([]++n.2.1).getD r.1.toNat ([],(0,(0,(0,(0,(0,[]))))))).2).1,((((([]++n.2.1).getD r.1.toNat ([],(0,(0,(0,(0,(0,[]))))))).2).2).2).1,(((((([]++n.2.1).getD r.1.toNat ([],(0,(0,(0,(0,(0,[]))))))).2).2).2).2).1,((((((([]++n.2.1).getD r.1.toNat ([],(0,(0,(0,(0,(0,[]))))))).2).2).2).2).2).1,([]++(((((((([]++n.2.1).getD r.1.toNat ([],(0,(0,(0,(0,(0,[]))))))).2).2).2).2).2).2)),r2.2.1,r2.2.2,([]++n.1),([]++n.2.1),([]++n.2.2.1),([]++n.2.2.2.1))))
 else(
 bif decide (r2.1=9) then(
 (qb7 ([[115,97],[115,122],[]]:List (List UInt8)) r2.2.1 r2.2.2).bind fun r18=>
 (qac ([(-1),0,0,1,99]:List Int) r18.2.1 r18.2.2).bind fun r19=>
 (qac ([0,(-1)]:List Int) r19.2.1 r19.2.2).bind fun r20=>
 (qac ([0,100001]:List Int) r20.2.1 r20.2.2).bind fun r21=>
 (qac ([0,(-1)]:List Int) r21.2.1 r21.2.2).bind fun r22=>
 gd (fits (([]++n.2.2.2.1).length+1) 48)<|
 some (n.2.2.2.2.1,n.2.2.2.2.2,((([]++n.2.1).getD r.1.toNat ([],(0,(0,(0,(0,(0,[]))))))).2).1,((((([]++n.2.1).getD r.1.toNat ([],(0,(0,(0,(0,(0,[]))))))).2).2).2).1,(((((([]++n.2.1).getD r.1.toNat ([],(0,(0,(0,(0,(0,[]))))))).2).2).2).2).1,((((((([]++n.2.1).getD r.1.toNat ([],(0,(0,(0,(0,(0,[]))))))).2).2).2).2).2).1,([]++(((((((([]++n.2.1).getD r.1.toNat ([],(0,(0,(0,(0,(0,[]))))))).2).2).2).2).2).2)),r22.2.1,r22.2.2,([]++n.1),([]++n.2.1),([]++n.2.2.1),([]++n.2.2.2.1)++[(r18.1,(r19.1,(r20.1,(r21.1,r22.1))))]))
 else(
 bif decide (r2.1=10) then(
 (qac ([0,(-100001),100000001]:List Int) r2.2.1 r2.2.2).bind fun r23=>
 (qac ([0,(-1),101]:List Int) r23.2.1 r23.2.2).bind fun r24=>
 some (r23.1,r24.1,((([]++n.2.1).getD r.1.toNat ([],(0,(0,(0,(0,(0,[]))))))).2).1,((((([]++n.2.1).getD r.1.toNat ([],(0,(0,(0,(0,(0,[]))))))).2).2).2).1,(((((([]++n.2.1).getD r.1.toNat ([],(0,(0,(0,(0,(0,[]))))))).2).2).2).2).1,((((((([]++n.2.1).getD r.1.toNat ([],(0,(0,(0,(0,(0,[]))))))).2).2).2).2).2).1,([]++(((((((([]++n.2.1).getD r.1.toNat ([],(0,(0,(0,(0,(0,[]))))))).2).2).2).2).2).2)),r24.2.1,r24.2.2,([]++n.1),([]++n.2.1),([]++n.2.2.1),([]++n.2.2.2.1)))
 else(
 (iter (fun x2=>qjw x2.1 x2.2.1 x2.2.2.1 x2.2.2.2.1 x2.2.2.2.2.1 x2.2.2.2.2.2.1 x2.2.2.2.2.2.2) (r2.2.1,r2.2.2,([]++n.1),([]++n.2.1),([]++n.2.2.1),([]++n.2.2.2.1),([]++(((((((([]++n.2.1).getD r.1.toNat ([],(0,(0,(0,(0,(0,[]))))))).2).2).2).2).2).2)))).bind fun s5=>
 some (n.2.2.2.2.1,n.2.2.2.2.2,((([]++n.2.1).getD r.1.toNat ([],(0,(0,(0,(0,(0,[]))))))).2).1,((((([]++n.2.1).getD r.1.toNat ([],(0,(0,(0,(0,(0,[]))))))).2).2).2).1,(((((([]++n.2.1).getD r.1.toNat ([],(0,(0,(0,(0,(0,[]))))))).2).2).2).2).1,((((((([]++n.2.1).getD r.1.toNat ([],(0,(0,(0,(0,(0,[]))))))).2).2).2).2).2).1,s5.2.2.2.2.2.2,s5.1,s5.2.1,s5.2.2.1,s5.2.2.2.1,s5.2.2.2.2.1,s5.2.2.2.2.2.1))))))))))))) fun s6=>
 gd (inB r.1 s6.2.2.2.2.2.2.2.2.2.2.1.length)<|
 some ((s6.2.2.2.2.2.2.2.2.2.1,(s6.2.2.2.2.2.2.2.2.2.2.1.set r.1.toNat ((([]++n.2.1).getD r.1.toNat ([],(0,(0,(0,(0,(0,[]))))))).1,(s6.2.2.1,((((([]++n.2.1).getD r.1.toNat ([],(0,(0,(0,(0,(0,[]))))))).2).2).1,(s6.2.2.2.1,(s6.2.2.2.2.1,(s6.2.2.2.2.2.1,s6.2.2.2.2.2.2.1)))))),(s6.2.2.2.2.2.2.2.2.2.2.2.1,(s6.2.2.2.2.2.2.2.2.2.2.2.2,(s6.1,s6.2.1))))),s6.2.2.2.2.2.2.2.1,s6.2.2.2.2.2.2.2.2.1)
def qjx:Fun:=
 ⟨15,2,1,
 ⟨[(0,pt 0 0),(1,dd tT0)],v3_,[]⟩,
 ⟨[(0,dd tT0)],v3_,[]⟩,
 fun x=>qf5 x.1 x.2.1 x.2.2⟩
theorem qpp:FO qjx:=fi [7,12,17,22,37] [qa4,qgB,qbv,qis] 228 [] ((nn (nn (nn (nn (nn (nn (nn (nn (mm (nn (.mk [.join [⟨.n,⟨[(3,pt 64 0),(4,pt 80 0),(5,kk),(6,pt 112 0)],[(64,32,[.own 1049,.own 256,.own 336,.own 1097,.data I6,.data I6]),(80,32,(kp 6)),(112,78,[.keep,.data I6,.keep,.data I6,.data I6,.data I6,.data (.sl (.pair I6 (.pair I6 I6)))]),(0,88,[.data (.sl I6),.data I6])],[(1049,.arr 9 (.str)),(256,.arr 78 (.pair (.str) tT5)),(336,.arr 80 (.pair (.str) (.pair I6 I6))),(1097,.arr 93 tT3)]⟩⟩]] none (nn (nn (nn (nn (nn (nn (nn (nn (nn (nn (nn (nn (nn (mm (.mk [.fz [6]] none .nil .nil) (nn (nn (nn (nn (nn (nn (nn (nn (mm (.mk [] (some (⟨[(0,pt 0 0),(3,pt 64 0),(4,pt 80 0),(5,kk),(6,pt 112 0)],[(0,88,[.data (.sl I6),.data I6]),(64,32,[.own 1049,.own 256,.own 336,.own 416,.keep,.keep]),(80,32,(kp 6)),(112,78,[.keep,.keep,.keep,.keep,.keep,.keep,.own 656])],a43_⟩,[⟨.x 1,⟨[(3,pt 64 0),(4,pt 80 0),(5,kk),(6,pt 112 0)],[(64,32,[.own 1049,.own 256,.own 336,.own 416,.keep,.keep]),(80,32,(kp 6)),(112,78,[.keep,.keep,.keep,.keep,.keep,.keep,.own 656]),(0,88,[.data (.sl I6),.data I6])],a43_⟩⟩])) .nil .nil) .nil))))))))))))))))))))))) .nil)) .nil)))))))))) func15 ⟨⟨qbc,qkJ,qbW,qlt,trivial⟩,trivial⟩
def qkk(n:yB0)(f:List Int×List Int)(c:yB1)(r:yB9):Option ((List Int×List Int)×yB1×Int):=
 (qeO (n.1,(n.2.1,(n.2.2.1,(n.2.2.2.1,(n.2.2.2.2.1,n.2.2.2.2.2))))) ((c.1.1,(c.1.2.1,(c.1.2.2.1,c.1.2.2.2))),(c.2.1,(c.2.2.1,c.2.2.2))) (r.1,(r.2.1,((r.2.2.1.1,(r.2.2.1.2.1,(r.2.2.1.2.2.1,(r.2.2.1.2.2.2.1,(r.2.2.1.2.2.2.2.1,(r.2.2.1.2.2.2.2.2.1,r.2.2.1.2.2.2.2.2.2)))))),(r.2.2.2.1,(r.2.2.2.2.1,r.2.2.2.2.2)))))).bind fun r2=>
 bif !decide (r2.2=0) then(
 some ((f.1,f.2),((c.1.1,(c.1.2.1,(c.1.2.2.1,c.1.2.2.2))),(c.2.1,(c.2.2.1,c.2.2.2))),r2.2))
 else(
 (qdG (r.1,(r.2.1,((r.2.2.1.1,(r.2.2.1.2.1,(r.2.2.1.2.2.1,(r.2.2.1.2.2.2.1,(r.2.2.1.2.2.2.2.1,(r.2.2.1.2.2.2.2.2.1,r.2.2.1.2.2.2.2.2.2)))))),(r.2.2.2.1,(r.2.2.2.2.1,r.2.2.2.2.2)))))).bind fun r3=>
 bif !decide (r3.1=0) then(
 some ((f.1,f.2),((c.1.1,(c.1.2.1,(c.1.2.2.1,c.1.2.2.2))),(c.2.1,(c.2.2.1,c.2.2.2))),r3.1))
 else(
 (qgr (f.1,f.2) r3.2).bind fun r4=>
 bif !decide (r4.2=0) then(
 some ((f.1,f.2),((c.1.1,(c.1.2.1,(c.1.2.2.1,c.1.2.2.2))),(c.2.1,(c.2.2.1,c.2.2.2))),r4.2))
 else(
 (qjv (r4.1.1,r4.1.2)).bind fun r5=>
 some ((r5.2,r5.1),((r2.1.1.1,(r2.1.1.2.1,(r2.1.1.2.2.1,r2.1.1.2.2.2))),(r2.1.2.1,(r2.1.2.2.1,r2.1.2.2.2))),0))))
def qnb:Fun:=
 ⟨43,4,3,
 ⟨r13_,[],[]⟩,
 ⟨r11_,[],[]⟩,
 fun x=>qkk x.1 x.2.1 x.2.2.1 x.2.2.2⟩
theorem qsi:FO qnb:=fi [] [qek,qfp,qhW,qkj] 51 [] ((nn (nn (nn (nn (nn (mm (.mk [.fz [13]] none .nil .nil) .nil))))))) func43 ⟨⟨qf4,qhV,qlQ,qoO,trivial⟩,trivial⟩
def qfJ(a:List Int×List Int)(b:List Int×List Int):Option (Bool):=
 bif decide (qcV a.1=qcV b.1) then(
 some (decide (qcV a.2=qcV b.2)))
 else(
 some false)
def qoQ:Fun:=
 ⟨44,2,1,
 ⟨[(0,dd (.pair (.sl (.int .u8)) (.sl (.int .u8)))),(1,dd (.pair (.sl (.int .u8)) (.sl (.int .u8))))],[],[]⟩,
 ⟨[(0,bb)],[],[]⟩,
 fun x=>qfJ x.1 x.2⟩
theorem qtE:FO qoQ:=fi [] [] 21 [] .nil func44 ⟨trivial,trivial⟩
def qg5(f:List Int×List Int):Option ((List Int×List Int)×List (List Int)):=
 (qju f.1).bind fun r=>
 gd (cutG none (some (.i64,r.1)) f.1.length)<|
 gd (fits (0+(f.1.take r.1.toNat).length) 1)<|
 some ((([]++(f.1.take r.1.toNat)),[]),r.2)
def qkQ:Fun:=
 ⟨78,1,2,
 ⟨r19_,[],[]⟩,
 ⟨r126_,[],a125_⟩,
 fun x=>qg5 x⟩
theorem qp7:FO qkQ:=fi [12] [qki] 20 [] .nil func78 ⟨⟨qoN,trivial⟩,trivial⟩
def qad(t:List Int)(t2:Int)(t3:Bool):Option (Int×List Int×Int×Bool):=
 bif !t3 then(
 some (0,t,t2,t3))
 else(
 (qjt t t2).bind fun r=>
 bif !decide (r.2.2=0) then(
 some (0,t,t2,false))
 else(
 some (r.1,t,r.2.1,t3)))
def qfq:Fun:=
 ⟨137,1,1,
 ⟨[(0,pt 0 0)],v56_,[]⟩,
 ⟨[(0,ii)],v56_,[]⟩,
 fun x=>qad x.1 x.2.1 x.2.2⟩
theorem qiD:FO qfq:=fi [] [qlP] 34 [] .nil func137 ⟨⟨qpK,trivial⟩,trivial⟩
def qa9(most:Int)(t:List Int)(t2:Int)(t3:Bool):Option (Int×List Int×Int×Bool):=
 (qad t t2 t3).bind fun r=>
 Option.bind (α:=Bool) (
 bif decide (r.1<0) then(
 some true)
 else(
 some (decide (most<r.1)))) fun s=>
 bif s then(
 some (0,r.2.1,r.2.2.1,false))
 else(
 some (r.1,r.2.1,r.2.2.1,r.2.2.2))
def qhX:Fun:=
 ⟨138,2,1,
 ⟨r138_,v56_,[]⟩,
 ⟨[(0,ii)],v56_,[]⟩,
 fun x=>qa9 x.1 x.2.1 x.2.2.1 x.2.2.2⟩
theorem qnw:FO qhX:=fi [] [qfq] 19 [] ((nn (nn (mm (mm (.mk [.join [⟨.n,⟨[(0,pt 0 0),(5,kk),(14,bb)],[(0,197,[.keep,.keep,.keep])],[]⟩⟩]] none .nil .nil) .nil) .nil)))) func138 ⟨⟨qiD,trivial⟩,trivial⟩
def qbK(i:Int)(t:List Int)(t2:Int)(t3:Bool)(r3:List Int):Option ((Int×List Int×Int×Bool×List Int)⊕(List Int×Int×Bool×List Int)):=
 bif decide (0<i) then(
 (qad t t2 t3).bind fun r4=>
 gd (fits (r3.length+1) 8)<|
 some (.inl (wi64 (i-1),r4.2.1,r4.2.2.1,r4.2.2.2,r3++[r4.1])))
 else(
 some (.inr (t,t2,t3,r3)))
def qbL(i2:Int)(t4:List Int)(t5:Int)(t6:Bool)(s2:List Int)(s3:List (Int×Bool)):Option ((Int×List Int×Int×Bool×List Int×List (Int×Bool))⊕(List Int×Int×Bool×List Int×List (Int×Bool))):=
 bif decide (0<i2) then(
 (qad t4 t5 t6).bind fun r11=>
 (qa9 1 r11.2.1 r11.2.2.1 r11.2.2.2).bind fun r12=>
 gd (fits (s3.length+1) 16)<|
 some (.inl (wi64 (i2-1),r12.2.1,r12.2.2.1,r12.2.2.2,s2,s3++[(r11.1,decide (r12.1=1))])))
 else(
 some (.inr (t4,t5,t6,s2,s3)))
def qiE(b:List Int):Option (yB9×Int):=
 (qad b 0 true).bind fun r=>
 (qa9 21 r.2.1 r.2.2.1 r.2.2.2).bind fun r2=>
 (iter (fun x=>qbK x.1 x.2.1 x.2.2.1 x.2.2.2.1 x.2.2.2.2) (r2.1,r2.2.1,r2.2.2.1,r2.2.2.2,[])).bind fun s=>
 (qad s.1 s.2.1 s.2.2.1).bind fun r5=>
 (qad r5.2.1 r5.2.2.1 r5.2.2.2).bind fun r6=>
 (qad r6.2.1 r6.2.2.1 r6.2.2.2).bind fun r7=>
 (qad r7.2.1 r7.2.2.1 r7.2.2.2).bind fun r8=>
 (qad r8.2.1 r8.2.2.1 r8.2.2.2).bind fun r9=>
 (qa9 32 r9.2.1 r9.2.2.1 r9.2.2.2).bind fun r10=>
 (iter (fun x2=>qbL x2.1 x2.2.1 x2.2.2.1 x2.2.2.2.1 x2.2.2.2.2.1 x2.2.2.2.2.2) (r10.1,r10.2.1,r10.2.2.1,r10.2.2.2,s.2.2.2,[])).bind fun s4=>
 (qad s4.1 s4.2.1 s4.2.2.1).bind fun r13=>
 (qad r13.2.1 r13.2.2.1 r13.2.2.2).bind fun r14=>
 (qad r14.2.1 r14.2.2.1 r14.2.2.2).bind fun r15=>
 (qa9 12 r15.2.1 r15.2.2.1 r15.2.2.2).bind fun r16=>
 Option.bind (α:=Bool×List Int×List (Int×Bool)) (
 bif !r16.2.2.2 then(
 some (true,s4.2.2.2.1,s4.2.2.2.2))
 else(
 some ((!decide (wi64 ((b.length:Int)-r16.2.2.1)=r16.1)),s4.2.2.2.1,s4.2.2.2.2))) fun s5=>
 bif s5.1 then(
 some ((0,([],((0,(0,(0,(0,(0,([],0)))))),([],(0,0))))),3))
 else(
 gd (cutG (some (.i64,r16.2.2.1)) none b.length)<|
 some ((r.1,(s5.2.1,((r5.1,(r6.1,(r7.1,(r8.1,(r9.1,(s5.2.2,r13.1)))))),(qcV (b.drop r16.2.2.1.toNat),(r14.1,r15.1))))),0))
def qlR:Fun:=
 ⟨79,1,2,
 ⟨r62_,[],[]⟩,
 ⟨r60_,[],[]⟩,
 fun x=>qiE x⟩
theorem qrz:FO qlR:=fi [] [qfq,qhX] 125 [] ((nn (nn (nn (nn (mm (nn (mm (.mk [] (some (⟨[(0,kk),(2,pt 48 0),(4,pt 224 0),(5,pt 96 0),(6,ii)],v31_,[(1577,.arr 3 I6)]⟩,[⟨.x 0,⟨[(0,kk),(2,pt 48 0),(4,pt 224 0),(5,pt 96 0)],v31_,[(1577,.arr 3 I6)]⟩⟩])) .nil .nil) .nil)) (nn (nn (nn (mm (nn (mm (.mk [] (some (⟨[(0,kk),(2,pt 48 0),(4,pt 224 0),(5,pt 96 0),(7,pt 96 2),(8,ii)],v26_,a41_⟩,[⟨.x 2,⟨[(0,kk),(2,pt 48 0),(4,pt 224 0),(5,pt 96 0),(7,pt 96 2)],v26_,a41_⟩⟩])) .nil .nil) .nil)) (nn (nn (nn (mm (mm (.mk [.join [⟨.n,⟨[(0,kk),(2,pt 48 0),(4,pt 224 0),(5,pt 96 0),(113,bb)],[(48,62,(kp 12)),(224,197,[.keep,.keep,.keep]),(96,62,[.keep,.own 1577,.keep,.keep,.keep,.keep,.keep,.own 1673,.keep,.keep,.keep,.keep])],a41_⟩⟩]] none .nil .nil) .nil) .nil)))))))))))))) func79 ⟨⟨qiD,qnw,trivial⟩,trivial⟩
def qgF(n:yB0)(f:List Int×List Int)(i:Int)(v:List Int)(v2:List Int)(v3:yB4)(v4:List Int)(v5:List Int)(v6:List Bool)(v7:List yB3)(v8:List yB2)(v9:Int)(c:yB4)(c2:List Int)(c3:List Int)(c4:List Bool)(c5:List yB3)(c6:List yB2)(c7:Int)(l:List (List Int)):Option yB11:=
 bif decide (i<(l.length:Int)) then(
 gd (inB i l.length)<|
 (qiE (l.getD i.toNat [])).bind fun r3=>
 bif !decide (r3.2=0) then(
 some (.inr (.inr (28,f.1,f.2,[],[],[],[],[],[],0))))
 else(
 (qeO (n.1,(n.2.1,(n.2.2.1,(n.2.2.2.1,(n.2.2.2.2.1,n.2.2.2.2.2))))) ((c,(c2,(c3,c4))),(c5,(c6,c7))) (r3.1.1,(r3.1.2.1,((r3.1.2.2.1.1,(r3.1.2.2.1.2.1,(r3.1.2.2.1.2.2.1,(r3.1.2.2.1.2.2.2.1,(r3.1.2.2.1.2.2.2.2.1,(r3.1.2.2.1.2.2.2.2.2.1,r3.1.2.2.1.2.2.2.2.2.2)))))),(r3.1.2.2.2.1,(r3.1.2.2.2.2.1,r3.1.2.2.2.2.2)))))).bind fun r4=>
 bif !decide (r4.2=0) then(
 some (.inr (.inr (28,f.1,f.2,[],[],[],[],[],[],0))))
 else(
 some (.inl (wi64 (i+1),v,v2,v3,v4,v5,v6,v7,v8,v9,r4.1.1.1,r4.1.1.2.1,r4.1.1.2.2.1,r4.1.1.2.2.2,r4.1.2.1,r4.1.2.2.1,r4.1.2.2.2,l)))))
 else(
 some (.inr (.inl (v,v2,v3,v4,v5,v6,v7,v8,v9,c,c2,c3,c4,c5,c6,c7))))
def qg6(n:yB0)(travel:Int)(f:List Int×List Int):Option ((List Int×List Int)×yB1×Int):=
 (qji (n.1,(n.2.1,(n.2.2.1,(n.2.2.2.1,(n.2.2.2.2.1,n.2.2.2.2.2))))) travel).bind fun r=>
 bif !decide (r.2=0) then(
 some ((f.1,f.2),(([],([],([],[]))),([],([],0))),r.2))
 else(
 (qg5 (f.1,f.2)).bind fun r2=>
 (iter (fun x=>qgF n f x.1 x.2.1 x.2.2.1 x.2.2.2.1 x.2.2.2.2.1 x.2.2.2.2.2.1 x.2.2.2.2.2.2.1 x.2.2.2.2.2.2.2.1 x.2.2.2.2.2.2.2.2.1 x.2.2.2.2.2.2.2.2.2.1 x.2.2.2.2.2.2.2.2.2.2.1 x.2.2.2.2.2.2.2.2.2.2.2.1 x.2.2.2.2.2.2.2.2.2.2.2.2.1 x.2.2.2.2.2.2.2.2.2.2.2.2.2.1 x.2.2.2.2.2.2.2.2.2.2.2.2.2.2.1 x.2.2.2.2.2.2.2.2.2.2.2.2.2.2.2.1 x.2.2.2.2.2.2.2.2.2.2.2.2.2.2.2.2.1 x.2.2.2.2.2.2.2.2.2.2.2.2.2.2.2.2.2) (0,[],[],[],[],[],[],[],[],0,r.1.1.1,r.1.1.2.1,r.1.1.2.2.1,r.1.1.2.2.2,r.1.2.1,r.1.2.2.1,r.1.2.2.2,r2.2)).bind fun s=>
 s.elim (fun s2=>
 some ((r2.1.1,r2.1.2),((s2.2.2.2.2.2.2.2.2.2.1,(s2.2.2.2.2.2.2.2.2.2.2.1,(s2.2.2.2.2.2.2.2.2.2.2.2.1,s2.2.2.2.2.2.2.2.2.2.2.2.2.1))),(s2.2.2.2.2.2.2.2.2.2.2.2.2.2.1,(s2.2.2.2.2.2.2.2.2.2.2.2.2.2.2.1,s2.2.2.2.2.2.2.2.2.2.2.2.2.2.2.2))),0))
 (fun s3=>
 some ((s3.2.1,s3.2.2.1),((s3.2.2.2.1,(s3.2.2.2.2.1,(s3.2.2.2.2.2.1,s3.2.2.2.2.2.2.1))),(s3.2.2.2.2.2.2.2.1,(s3.2.2.2.2.2.2.2.2.1,s3.2.2.2.2.2.2.2.2.2))),s3.1)))
def qkR:Fun:=
 ⟨45,3,3,
 ⟨r106_,[],[]⟩,
 ⟨r11_,[],[]⟩,
 fun x=>qg6 x.1 x.2.1 x.2.2⟩
theorem qp8:FO qkR:=fi [] [qit,qkQ,qlR,qek] 63 [] ((nn (nn (nn (nn (mm (nn (mm (.mk [] (some (⟨[(3,pt 64 0),(5,pt 96 0),(6,pt 112 0),(7,pt 128 0),(9,pt 160 0),(11,pt 192 0),(12,ow 480),(13,ii)],[(64,32,(kp 6)),(96,50,[.keep,.keep]),(112,50,[.data (.sl (.int .u8)),.data (.sl (.int .u8))]),(128,44,[.data (.sl tT2),.data (.sl I6),.data (.sl I6),.data (.sl (.bool)),.data (.sl tT1),.data (.sl tT3),.data I6]),(160,44,[.data (.sl tT2),.data (.sl I6),.data (.sl I6),.data (.sl (.bool)),.data (.sl tT1),.data (.sl tT3),.data I6]),(192,50,[.keep,.keep])],[(480,.arr 48 (.sl (.int .u8)))]⟩,[⟨.x 0,⟨[(6,pt 112 0),(7,pt 128 0),(9,pt 160 0),(11,pt 192 0)],[(112,50,[.data (.sl (.int .u8)),.data (.sl (.int .u8))]),(128,44,[.data (.sl tT2),.data (.sl I6),.data (.sl I6),.data (.sl (.bool)),.data (.sl tT1),.data (.sl tT3),.data I6]),(160,44,[.data (.sl tT2),.data (.sl I6),.data (.sl I6),.data (.sl (.bool)),.data (.sl tT1),.data (.sl tT3),.data I6]),(192,50,[.keep,.keep])],[]⟩⟩,⟨.r,⟨[(6,pt 112 0),(7,pt 128 0),(8,ii)],v24_,[]⟩⟩])) .nil .nil) .nil)) .nil)))))) func45 ⟨⟨qlv,qp7,qrz,qf4,trivial⟩,trivial⟩
def qlS(t:yB3)(v:Int):Option (Bool):=
 some (decide (t.1=v))
def qiF:Fun:=
 ⟨83,2,1,
 ⟨[(0,dd tT1),(1,.one (.sel I6))],[],[]⟩,
 ⟨[(0,bb)],[],[]⟩,
 fun x=>qlS x.1 x.2⟩
theorem qoR:FO qiF:=fi [] [] 8 [] .nil func83 ⟨trivial,trivial⟩
def qah(s:List yB3)(f:yB3×Unit->Option Bool)(v:Int):Option (Int⊕(Unit⊕Int)):=
 bif decide (v<(s.length:Int)) then(
 gd (inB v s.length)<|
 (f (s.getD v.toNat (0,(0,(0,(0,(0,[]))))),())).bind fun r=>
 bif r then(
 some (.inr (.inr v)))
 else(
 some (.inl (wi64 (v+1)))))
 else(
 some (.inr (.inl ())))
def qaD(s:List yB3)(f:yB3×Unit->Option Bool):Option (Int):=
 (iter (fun x=>qah s f x) 0).bind fun s2=>
 s2.elim (fun s3=>
 some (-1))
 (fun s4=>
 some s4)
def qbk:Fun:=
 ⟨82,2,1,
 ⟨[(0,dd (.sl tT1)),(1,.one (.fn [.pair I6 (.pair I6 (.pair I6 (.pair I6 (.pair I6 (.sl I6)))))] (.bool)))],[],[]⟩,
 ⟨[(0,ii)],[],[]⟩,
 fun x=>qaD x.1 x.2⟩
theorem qcS:FO qbk:=fi [] [] 19 [] ((nn (mm (nn (mm (.mk [] (some (⟨r33_,[],[]⟩,[⟨.x 0,⟨[],[],[]⟩⟩,⟨.r,⟨[(4,ii)],[],[]⟩⟩])) .nil .nil) .nil)) .nil))) func82 ⟨trivial,trivial⟩
def qg7(c:yB1)(station:Int):Option (yB3×Bool):=
 (qaD c.2.1 (fun h=>(qlS h.1 station).bind fun y=>some y)).bind fun r=>
 bif decide (r<0) then(
 some ((0,(0,(0,(0,(0,[]))))),false))
 else(
 gd (inB r c.2.1.length)<|
 (qbQ ((((((c.2.1.getD r.toNat (0,(0,(0,(0,(0,[])))))).2).2).2).2).2)).bind fun r2=>
 some (((c.2.1.getD r.toNat (0,(0,(0,(0,(0,[])))))).1,(((c.2.1.getD r.toNat (0,(0,(0,(0,(0,[])))))).2).1,((((c.2.1.getD r.toNat (0,(0,(0,(0,(0,[])))))).2).2).1,(((((c.2.1.getD r.toNat (0,(0,(0,(0,(0,[])))))).2).2).2).1,((((((c.2.1.getD r.toNat (0,(0,(0,(0,(0,[])))))).2).2).2).2).1,r2))))),true))
def qkS:Fun:=
 ⟨47,2,2,
 ⟨r12_,[],[]⟩,
 ⟨[(0,dd tT1),(1,bb)],[],[]⟩,
 fun x=>qg7 x.1 x.2⟩
theorem qp9:FO qkS:=fi [] [qbk,qiF,qcv] 25 [] ((nn (mm (.mk [.fv [(3,.int .i64)]] none .nil .nil) .nil))) func47 ⟨⟨qcS,qoR,qdv,trivial⟩,trivial⟩
def qhY(c:yB1)(station:Int)(i:Int)(v:Int)(v2:Int)(v3:Int)(v4:Int)(v5:Int)(v6:List Int):Option ((Int×Int×Int×Int×Int×Int×List Int)⊕(yB3⊕(Bool×Int×Int×Int×Int×Int×List Int))):=
 bif decide (i<(c.2.1.length:Int)) then(
 gd (inB i c.2.1.length)<|
 bif decide ((c.2.1.getD i.toNat (0,(0,(0,(0,(0,[])))))).1=station) then(
 gd (inB i c.2.1.length)<|
 (qcz (c.2.1.getD i.toNat (0,(0,(0,(0,(0,[]))))))).bind fun r=>
 some (.inr (.inr (true,r.1,r.2.1,r.2.2.1,r.2.2.2.1,r.2.2.2.2.1,r.2.2.2.2.2))))
 else(
 some (.inl (wi64 (i+1),v,v2,v3,v4,v5,v6))))
 else(
 some (.inr (.inl (v,v2,v3,v4,v5,v6))))
def qiG(c:yB1)(station:Int):Option (yB3×Bool):=
 (iter (fun x=>qhY c station x.1 x.2.1 x.2.2.1 x.2.2.2.1 x.2.2.2.2.1 x.2.2.2.2.2.1 x.2.2.2.2.2.2) (0,0,0,0,0,0,[])).bind fun s=>
 s.elim (fun s2=>
 some ((0,(0,(0,(0,(0,[]))))),false))
 (fun s3=>
 some ((s3.2.1,(s3.2.2.1,(s3.2.2.2.1,(s3.2.2.2.2.1,(s3.2.2.2.2.2.1,s3.2.2.2.2.2.2))))),s3.1))
def qlT:Fun:=
 ⟨48,2,2,
 ⟨r12_,[],[]⟩,
 ⟨[(0,dd tT1),(1,bb)],[],[]⟩,
 fun x=>qiG x.1 x.2⟩
theorem qrA:FO qlT:=fi [] [qdF] 29 [] ((nn (mm (nn (mm (.mk [] (some (⟨[(1,kk),(2,pt 48 0),(4,pt 80 0),(6,ii)],[(48,44,(kp 7)),(80,104,[.data I6,.data I6,.data I6,.data I6,.data I6,.data (.sl I6)])],[]⟩,[⟨.x 0,⟨[(4,pt 80 0)],v99_,[]⟩⟩,⟨.r,⟨[(4,pt 80 0),(5,bb)],v99_,[]⟩⟩])) .nil .nil) .nil)) .nil))) func48 ⟨⟨qgn,trivial⟩,trivial⟩
def qem(c:yB1)(s3:Int):Option (Int⊕(Unit⊕Bool)):=
 bif decide (s3<5) then(
 (qg7 ((c.1.1,(c.1.2.1,(c.1.2.2.1,c.1.2.2.2))),(c.2.1,(c.2.2.1,c.2.2.2))) s3).bind fun r15=>
 (qiG ((c.1.1,(c.1.2.1,(c.1.2.2.1,c.1.2.2.2))),(c.2.1,(c.2.2.1,c.2.2.2))) s3).bind fun r16=>
 Option.bind (α:=Bool) (
 bif !(r15.2==r16.2) then(
 some true)
 else(
 (qbT (r15.1.1,(r15.1.2.1,(r15.1.2.2.1,(r15.1.2.2.2.1,(r15.1.2.2.2.2.1,r15.1.2.2.2.2.2))))) (r16.1.1,(r16.1.2.1,(r16.1.2.2.1,(r16.1.2.2.2.1,(r16.1.2.2.2.2.1,r16.1.2.2.2.2.2)))))).bind fun r17=>
 some (!r17))) fun s4=>
 bif s4 then(
 some (.inr (.inr false)))
 else(
 some (.inl (wi64 (s3+1)))))
 else(
 some (.inr (.inl ())))
def qkl(n:yB0)(travel:Int)(f:List Int×List Int)(c:yB1)(r:yB9):Option (Bool):=
 (qcU (n.1,(n.2.1,(n.2.2.1,(n.2.2.2.1,(n.2.2.2.2.1,n.2.2.2.2.2))))) ((c.1.1,(c.1.2.1,(c.1.2.2.1,c.1.2.2.2))),(c.2.1,(c.2.2.1,c.2.2.2))) (r.1,(r.2.1,((r.2.2.1.1,(r.2.2.1.2.1,(r.2.2.1.2.2.1,(r.2.2.1.2.2.2.1,(r.2.2.1.2.2.2.2.1,(r.2.2.1.2.2.2.2.2.1,r.2.2.1.2.2.2.2.2.2)))))),(r.2.2.2.1,(r.2.2.2.2.1,r.2.2.2.2.2)))))).bind fun r2=>
 (qeO (n.1,(n.2.1,(n.2.2.1,(n.2.2.2.1,(n.2.2.2.2.1,n.2.2.2.2.2))))) ((c.1.1,(c.1.2.1,(c.1.2.2.1,c.1.2.2.2))),(c.2.1,(c.2.2.1,c.2.2.2))) (r.1,(r.2.1,((r.2.2.1.1,(r.2.2.1.2.1,(r.2.2.1.2.2.1,(r.2.2.1.2.2.2.1,(r.2.2.1.2.2.2.2.1,(r.2.2.1.2.2.2.2.2.1,r.2.2.1.2.2.2.2.2.2)))))),(r.2.2.2.1,(r.2.2.2.2.1,r.2.2.2.2.2)))))).bind fun r3=>
 (qgl (n.1,(n.2.1,(n.2.2.1,(n.2.2.2.1,(n.2.2.2.2.1,n.2.2.2.2.2))))) (f.1,f.2) ((c.1.1,(c.1.2.1,(c.1.2.2.1,c.1.2.2.2))),(c.2.1,(c.2.2.1,c.2.2.2))) (r.1,(r.2.1,((r.2.2.1.1,(r.2.2.1.2.1,(r.2.2.1.2.2.1,(r.2.2.1.2.2.2.1,(r.2.2.1.2.2.2.2.1,(r.2.2.1.2.2.2.2.2.1,r.2.2.1.2.2.2.2.2.2)))))),(r.2.2.2.1,(r.2.2.2.2.1,r.2.2.2.2.2)))))).bind fun r4=>
 (qkk (n.1,(n.2.1,(n.2.2.1,(n.2.2.2.1,(n.2.2.2.2.1,n.2.2.2.2.2))))) (f.1,f.2) ((c.1.1,(c.1.2.1,(c.1.2.2.1,c.1.2.2.2))),(c.2.1,(c.2.2.1,c.2.2.2))) (r.1,(r.2.1,((r.2.2.1.1,(r.2.2.1.2.1,(r.2.2.1.2.2.1,(r.2.2.1.2.2.2.1,(r.2.2.1.2.2.2.2.1,(r.2.2.1.2.2.2.2.2.1,r.2.2.1.2.2.2.2.2.2)))))),(r.2.2.2.1,(r.2.2.2.2.1,r.2.2.2.2.2)))))).bind fun r5=>
 Option.bind (α:=Bool) (
 bif !decide (r2.2=r3.2) then(
 some true)
 else(
 bif !decide (r4.2.2=r5.2.2) then(
 some true)
 else(
 (qeT ((r2.1.1.1,(r2.1.1.2.1,(r2.1.1.2.2.1,r2.1.1.2.2.2))),(r2.1.2.1,(r2.1.2.2.1,r2.1.2.2.2))) ((r3.1.1.1,(r3.1.1.2.1,(r3.1.1.2.2.1,r3.1.1.2.2.2))),(r3.1.2.1,(r3.1.2.2.1,r3.1.2.2.2)))).bind fun r6=>
 bif !r6 then(
 some true)
 else(
 (qeT ((r4.2.1.1.1,(r4.2.1.1.2.1,(r4.2.1.1.2.2.1,r4.2.1.1.2.2.2))),(r4.2.1.2.1,(r4.2.1.2.2.1,r4.2.1.2.2.2))) ((r5.2.1.1.1,(r5.2.1.1.2.1,(r5.2.1.1.2.2.1,r5.2.1.1.2.2.2))),(r5.2.1.2.1,(r5.2.1.2.2.1,r5.2.1.2.2.2)))).bind fun r7=>
 bif !r7 then(
 some true)
 else(
 (qfJ (r4.1.1,r4.1.2) (r5.1.1,r5.1.2)).bind fun r8=>
 some (!r8)))))) fun s=>
 bif s then(
 some false)
 else(
 (qd9 (n.1,(n.2.1,(n.2.2.1,(n.2.2.2.1,(n.2.2.2.2.1,n.2.2.2.2.2))))) travel (f.1,f.2)).bind fun r9=>
 (qg6 (n.1,(n.2.1,(n.2.2.1,(n.2.2.2.1,(n.2.2.2.2.1,n.2.2.2.2.2))))) travel (f.1,f.2)).bind fun r10=>
 (qdN (r.1,(r.2.1,((r.2.2.1.1,(r.2.2.1.2.1,(r.2.2.1.2.2.1,(r.2.2.1.2.2.2.1,(r.2.2.1.2.2.2.2.1,(r.2.2.1.2.2.2.2.2.1,r.2.2.1.2.2.2.2.2.2)))))),(r.2.2.2.1,(r.2.2.2.2.1,r.2.2.2.2.2)))))).bind fun r11=>
 (qdG (r.1,(r.2.1,((r.2.2.1.1,(r.2.2.1.2.1,(r.2.2.1.2.2.1,(r.2.2.1.2.2.2.1,(r.2.2.1.2.2.2.2.1,(r.2.2.1.2.2.2.2.2.1,r.2.2.1.2.2.2.2.2.2)))))),(r.2.2.2.1,(r.2.2.2.2.1,r.2.2.2.2.2)))))).bind fun r12=>
 Option.bind (α:=Bool) (
 bif !decide (r9.2.2=r10.2.2) then(
 some true)
 else(
 bif !decide (r11.1=r12.1) then(
 some true)
 else(
 bif !decide (qcV r11.2=qcV r12.2) then(
 some true)
 else(
 (qeT ((r9.2.1.1.1,(r9.2.1.1.2.1,(r9.2.1.1.2.2.1,r9.2.1.1.2.2.2))),(r9.2.1.2.1,(r9.2.1.2.2.1,r9.2.1.2.2.2))) ((r10.2.1.1.1,(r10.2.1.1.2.1,(r10.2.1.1.2.2.1,r10.2.1.1.2.2.2))),(r10.2.1.2.1,(r10.2.1.2.2.1,r10.2.1.2.2.2)))).bind fun r13=>
 bif !r13 then(
 some true)
 else(
 (qfJ (r9.1.1,r9.1.2) (r10.1.1,r10.1.2)).bind fun r14=>
 some (!r14)))))) fun s2=>
 bif s2 then(
 some false)
 else(
 (iter (fun x=>qem c x) 0).bind fun s5=>
 s5.elim (fun s6=>
 some true)
 (fun s7=>
 some s7)))
def qnc:Fun:=
 ⟨19,5,1,
 ⟨[(0,dd tT0),(1,ii),(2,dd (.pair (.sl (.int .u8)) (.sl (.int .u8)))),(3,dd (.pair (.pair (.sl tT2) tT6) (.pair (.sl tT1) (.pair (.sl tT3) I6)))),(4,dd (.pair I6 (.pair (.sl I6) (.pair (.pair I6 (.pair I6 (.pair I6 tT4))) (.pair (.str) (.pair I6 I6))))))],[],[]⟩,
 ⟨[(0,bb)],[],[]⟩,
 fun x=>qkl x.1 x.2.1 x.2.2.1 x.2.2.2.1 x.2.2.2.2⟩
theorem qsj:FO qnc:=fi [] [qfe,qek,qhz,qnb,qgY,qoQ,qfB,qkR,qgz,qfp,qkS,qlT,qdB] 166 [] ((nn (nn (nn (nn (nn (mm (mm (.mk [.join [⟨.n,⟨[(1,kk),(5,pt 96 0),(7,pt 128 0),(8,pt 144 0),(9,pt 160 0),(15,pt 256 0),(16,pt 272 0),(18,pt 304 0),(19,pt 320 0),(87,bb)],[(96,32,(kp 6)),(128,50,[.keep,.keep]),(144,44,(kp 7)),(160,62,(kp 12)),(256,50,[.keep,.keep]),(272,44,(kp 7)),(304,50,[.keep,.keep]),(320,44,(kp 7))],[]⟩⟩]] none .nil .nil) .nil) (nn (nn (nn (nn (mm (mm (.mk [.fz [21,23],.join [⟨.n,⟨[(8,pt 144 0),(140,bb)],[(144,44,(kp 7))],[]⟩⟩]] none .nil .nil) .nil) (mm (nn (mm (.mk [] (some (⟨[(8,pt 144 0),(25,ii)],[(144,44,(kp 7))],[]⟩,[⟨.x 0,⟨[],[],[]⟩⟩,⟨.r,⟨[(10,bb)],[],[]⟩⟩])) (nn (mm (mm (nn (nn (mm (.mk [.join [⟨.n,⟨[(8,pt 144 0),(25,kk),(165,bb)],[(144,44,(kp 7))],[]⟩⟩]] none .nil .nil) .nil))) .nil) .nil)) .nil) .nil)) .nil))))))))))))) func19 ⟨⟨qhv,qf4,qlr,qsi,qjZ,qtE,qjf,qp8,qkD,qhV,qp9,qrA,qgm,trivial⟩,trivial⟩
def qc5(i:Int)(f:List Int)(records:List yB9)(f2:List Int):Option ((Int×List Int×(List yB9)×List Int)⊕(List Int×List Int)):=
 bif decide (i<(records.length:Int)) then(
 gd (inB i records.length)<|
 (qdG (records.getD i.toNat (0,([],((0,(0,(0,(0,(0,([],0)))))),([],(0,0))))))).bind fun r7=>
 (qgr (f2,f) r7.2).bind fun r8=>
 (qjv (r8.1.1,r8.1.2)).bind fun r9=>
 some (.inl (wi64 (i+1),r9.1,records,r9.2)))
 else(
 some (.inr (f,f2)))
def qgG(l:List Int)(odd:Int)(vby:Int):Option (Bool):=
 (qo9 l).bind fun r=>
 bif !r then(
 (qhB).bind fun r2=>
 some r2)
 else(
 (qqg l).bind fun r3=>
 (qeC r3.1 r3.2).bind fun r4=>
 (qab 3 r4.2.1 r4.2.2).bind fun r5=>
 (qg4 (r4.1.1,(r4.1.2.1,(r4.1.2.2.1,(r4.1.2.2.2.1,(r4.1.2.2.2.2.1,r4.1.2.2.2.2.2))))) (wi64 (1+r5.1)) 8 r5.2.1 r5.2.2).bind fun r6=>
 (iter (fun x=>qc5 x.1 x.2.1 x.2.2.1 x.2.2.2) (0,[],r6.2.2.2,[])).bind fun s=>
 (qfm (r4.1.1,(r4.1.2.1,(r4.1.2.2.1,(r4.1.2.2.2.1,(r4.1.2.2.2.2.1,r4.1.2.2.2.2.2))))) ((r6.1.1.1,(r6.1.1.2.1,(r6.1.1.2.2.1,r6.1.1.2.2.2))),(r6.1.2.1,(r6.1.2.2.1,r6.1.2.2.2))) r6.2.1 r6.2.2.1).bind fun r10=>
 (qcr odd 16).bind fun r11=>
 Option.bind (α:=Int×List (List UInt8)×(List yT0)×yB13×(List yB2)×Int×Int×yB4×Int×List Int×Int×Int×List UInt8×Int×List Int) (
 bif decide (r11=0) then(
 (qf5 (r4.1.1,(r4.1.2.1,(r4.1.2.2.1,(r4.1.2.2.2.1,(r4.1.2.2.2.2.1,r4.1.2.2.2.2.2))))) r10.2.2.2.2.2.2.2.2.2.2.2.1 r10.2.2.2.2.2.2.2.2.2.2.2.2.1).bind fun r12=>
 some (wi64 (1+r5.1),r12.1.1,r12.1.2.1,r12.1.2.2.1,r12.1.2.2.2.1,r12.1.2.2.2.2.1,r12.1.2.2.2.2.2,r6.1.1.1,r6.1.2.2.2,s.2,r10.1,r10.2.2.2.1,r10.2.2.2.2.2.2.2.2.1,r10.2.2.2.2.2.2.2.2.2.2.1,r10.2.2.2.2.2.2.2.2.2.2.2.2.2))
 else(
 bif decide (r11=1) then(
 (qcr vby 64).bind fun r13=>
 some (wi64 (r13-1),r4.1.1,r4.1.2.1,r4.1.2.2.1,r4.1.2.2.2.1,r4.1.2.2.2.2.1,r4.1.2.2.2.2.2,r6.1.1.1,r6.1.2.2.2,s.2,r10.1,r10.2.2.2.1,r10.2.2.2.2.2.2.2.2.1,r10.2.2.2.2.2.2.2.2.2.2.1,r10.2.2.2.2.2.2.2.2.2.2.2.2.2))
 else(
 bif decide (r11=2) then(
 (qcr vby 6).bind fun r14=>
 some (wi64 (1+r5.1),r4.1.1,r4.1.2.1,r4.1.2.2.1,r4.1.2.2.2.1,r4.1.2.2.2.2.1,r4.1.2.2.2.2.2,r6.1.1.1,r6.1.2.2.2,s.2,wi64 (r14-1),r10.2.2.2.1,r10.2.2.2.2.2.2.2.2.1,r10.2.2.2.2.2.2.2.2.2.2.1,r10.2.2.2.2.2.2.2.2.2.2.2.2.2))
 else(
 bif decide (r11=3) then(
 gd (fits (r10.2.2.2.2.2.2.2.2.2.2.2.2.2.length+1) 8)<|
 some (wi64 (1+r5.1),r4.1.1,r4.1.2.1,r4.1.2.2.1,r4.1.2.2.2.1,r4.1.2.2.2.2.1,r4.1.2.2.2.2.2,r6.1.1.1,r6.1.2.2.2,s.2,r10.1,r10.2.2.2.1,r10.2.2.2.2.2.2.2.2.1,r10.2.2.2.2.2.2.2.2.2.2.1,r10.2.2.2.2.2.2.2.2.2.2.2.2.2++[vby]))
 else(
 bif decide (r11=4) then(
 some (wi64 (1+r5.1),r4.1.1,r4.1.2.1,r4.1.2.2.1,r4.1.2.2.2.1,r4.1.2.2.2.2.1,r4.1.2.2.2.2.2,r6.1.1.1,r6.1.2.2.2,s.2,r10.1,r10.2.2.2.1,r10.2.2.2.2.2.2.2.2.1,vby,r10.2.2.2.2.2.2.2.2.2.2.2.2.2))
 else(
 bif decide (r11=5) then(
 (qcr vby 5).bind fun r15=>
 some (wi64 (1+r5.1),r4.1.1,r4.1.2.1,r4.1.2.2.1,r4.1.2.2.2.1,r4.1.2.2.2.2.1,r4.1.2.2.2.2.2,r6.1.1.1,r6.1.2.2.2,s.2,r10.1,r15,r10.2.2.2.2.2.2.2.2.1,r10.2.2.2.2.2.2.2.2.2.2.1,r10.2.2.2.2.2.2.2.2.2.2.2.2.2))
 else(
 bif decide (r11=6) then(
 bif decide (0<(s.2.length:Int)) then(
 (qcr vby (s.2.length:Int)).bind fun r16=>
 gd (inB r16 s.2.length)<|
 gd (inB r16 s.2.length)<|
 some (wi64 (1+r5.1),r4.1.1,r4.1.2.1,r4.1.2.2.1,r4.1.2.2.2.1,r4.1.2.2.2.2.1,r4.1.2.2.2.2.2,r6.1.1.1,r6.1.2.2.2,s.2.set r16.toNat (wu8 ((s.2.getD r16.toNat 0)+1)),r10.1,r10.2.2.2.1,r10.2.2.2.2.2.2.2.2.1,r10.2.2.2.2.2.2.2.2.2.2.1,r10.2.2.2.2.2.2.2.2.2.2.2.2.2))
 else(
 some (wi64 (1+r5.1),r4.1.1,r4.1.2.1,r4.1.2.2.1,r4.1.2.2.2.1,r4.1.2.2.2.2.1,r4.1.2.2.2.2.2,r6.1.1.1,r6.1.2.2.2,s.2,r10.1,r10.2.2.2.1,r10.2.2.2.2.2.2.2.2.1,r10.2.2.2.2.2.2.2.2.2.2.1,r10.2.2.2.2.2.2.2.2.2.2.2.2.2)))
 else(
 bif decide (r11=7) then(
 (qcr vby (wi64 ((s.2.length:Int)+1))).bind fun r17=>
 gd (cutG none (some (.i64,r17)) s.2.length)<|
 some (wi64 (1+r5.1),r4.1.1,r4.1.2.1,r4.1.2.2.1,r4.1.2.2.2.1,r4.1.2.2.2.2.1,r4.1.2.2.2.2.2,r6.1.1.1,r6.1.2.2.2,s.2.take r17.toNat,r10.1,r10.2.2.2.1,r10.2.2.2.2.2.2.2.2.1,r10.2.2.2.2.2.2.2.2.2.2.1,r10.2.2.2.2.2.2.2.2.2.2.2.2.2))
 else(
 bif decide (r11=8) then(
 (qcr vby 2).bind fun r18=>
 gd (inB r18 ([1000,999]:List Int).length)<|
 some (wi64 (1+r5.1),r4.1.1,r4.1.2.1,r4.1.2.2.1,r4.1.2.2.2.1,r4.1.2.2.2.2.1,r4.1.2.2.2.2.2,r6.1.1.1,([1000,999]:List Int).getD r18.toNat 0,s.2,r10.1,r10.2.2.2.1,r10.2.2.2.2.2.2.2.2.1,r10.2.2.2.2.2.2.2.2.2.2.1,r10.2.2.2.2.2.2.2.2.2.2.2.2.2))
 else(
 bif decide (r11=9) then(
 bif decide (1<(r10.2.2.2.2.2.2.2.2.2.2.2.2.2.length:Int)) then(
 (qcr vby (r10.2.2.2.2.2.2.2.2.2.2.2.2.2.length:Int)).bind fun r19=>
 gd (inB r19 r10.2.2.2.2.2.2.2.2.2.2.2.2.2.length)<|
 some (wi64 (1+r5.1),r4.1.1,r4.1.2.1,r4.1.2.2.1,r4.1.2.2.2.1,r4.1.2.2.2.2.1,r4.1.2.2.2.2.2,r6.1.1.1,r6.1.2.2.2,s.2,r10.1,r10.2.2.2.1,r10.2.2.2.2.2.2.2.2.1,r10.2.2.2.2.2.2.2.2.2.2.1,r10.2.2.2.2.2.2.2.2.2.2.2.2.2.set r19.toNat vby))
 else(
 some (wi64 (1+r5.1),r4.1.1,r4.1.2.1,r4.1.2.2.1,r4.1.2.2.2.1,r4.1.2.2.2.2.1,r4.1.2.2.2.2.2,r6.1.1.1,r6.1.2.2.2,s.2,r10.1,r10.2.2.2.1,r10.2.2.2.2.2.2.2.2.1,r10.2.2.2.2.2.2.2.2.2.2.1,r10.2.2.2.2.2.2.2.2.2.2.2.2.2)))
 else(
 bif decide (r11=10) then(
 gd (cutG (some (.i64,1)) none r6.1.1.1.length)<|
 some (wi64 (1+r5.1),r4.1.1,r4.1.2.1,r4.1.2.2.1,r4.1.2.2.2.1,r4.1.2.2.2.2.1,r4.1.2.2.2.2.2,r6.1.1.1.drop 1,r6.1.2.2.2,s.2,r10.1,r10.2.2.2.1,r10.2.2.2.2.2.2.2.2.1,r10.2.2.2.2.2.2.2.2.2.2.1,r10.2.2.2.2.2.2.2.2.2.2.2.2.2))
 else(
 bif decide (r11=11) then(
 some (wi64 (1+r5.1),r4.1.1,r4.1.2.1,r4.1.2.2.1,r4.1.2.2.2.1,r4.1.2.2.2.2.1,r4.1.2.2.2.2.2,r6.1.1.1,r6.1.2.2.2,s.2,r10.1,r10.2.2.2.1,[97,98,99,100,101,102,103,104,105,106,107,108,109,110],r10.2.2.2.2.2.2.2.2.2.2.1,r10.2.2.2.2.2.2.2.2.2.2.2.2.2))
 else(
 some (wi64 (1+r5.1),r4.1.1,r4.1.2.1,r4.1.2.2.1,r4.1.2.2.2.1,r4.1.2.2.2.2.1,r4.1.2.2.2.2.2,r6.1.1.1,r6.1.2.2.2,s.2,r10.1,r10.2.2.2.1,r10.2.2.2.2.2.2.2.2.1,r10.2.2.2.2.2.2.2.2.2.2.1,r10.2.2.2.2.2.2.2.2.2.2.2.2.2)))))))))))))) fun s2=>
 (qha (s2.2.1,(s2.2.2.1,(s2.2.2.2.1,(s2.2.2.2.2.1,(s2.2.2.2.2.2.1,s2.2.2.2.2.2.2.1))))) s2.1).bind fun r20=>
 (qji (s2.2.1,(s2.2.2.1,(s2.2.2.2.1,(s2.2.2.2.2.1,(s2.2.2.2.2.2.1,s2.2.2.2.2.2.2.1))))) s2.1).bind fun r21=>
 bif decide (r20.2=r21.2) then(
 (qeT ((r20.1.1.1,(r20.1.1.2.1,(r20.1.1.2.2.1,r20.1.1.2.2.2))),(r20.1.2.1,(r20.1.2.2.1,r20.1.2.2.2))) ((r21.1.1.1,(r21.1.1.2.1,(r21.1.1.2.2.1,r21.1.1.2.2.2))),(r21.1.2.1,(r21.1.2.2.1,r21.1.2.2.2)))).bind fun r22=>
 bif r22 then(
 (qkl (s2.2.1,(s2.2.2.1,(s2.2.2.2.1,(s2.2.2.2.2.1,(s2.2.2.2.2.2.1,s2.2.2.2.2.2.2.1))))) s2.1 (s2.2.2.2.2.2.2.2.2.2.1,s.1) ((s2.2.2.2.2.2.2.2.1,(r6.1.1.2.1,(r6.1.1.2.2.1,r6.1.1.2.2.2))),(r6.1.2.1,(r6.1.2.2.1,s2.2.2.2.2.2.2.2.2.1))) (s2.2.2.2.2.2.2.2.2.2.2.1,(s2.2.2.2.2.2.2.2.2.2.2.2.2.2.2,((r10.2.1,(r10.2.2.1,(s2.2.2.2.2.2.2.2.2.2.2.2.1,(r10.2.2.2.2.1,(r10.2.2.2.2.2.1,(r10.2.2.2.2.2.2.1,r10.2.2.2.2.2.2.2.1)))))),(s2.2.2.2.2.2.2.2.2.2.2.2.2.1,(r10.2.2.2.2.2.2.2.2.2.1,s2.2.2.2.2.2.2.2.2.2.2.2.2.2.1)))))).bind fun r23=>
 bif r23 then(
 (qhB).bind fun r24=>
 some r24)
 else(
 some false))
 else(
 some false))
 else(
 some false))
def qhZ:Fun:=
 ⟨3,3,1,
 ⟨[(0,dd (.sl I6)),(1,ii),(2,ii)],[],[]⟩,
 ⟨[(0,bb)],[],[]⟩,
 fun x=>qgG x.1 x.2.1 x.2.2⟩
theorem qnx:FO qhZ:=fi [] [qn1,qmU,qrh,qhI,qa4,qkP,qfp,qhW,qkj,qgD,qoP,qjx,qgO,qit,qgY,qnc] 197 [] ((nn (nn (nn (nn (nn (nn (nn (mm (nn (mm (.mk [] (some (⟨[(1,kk),(2,kk),(7,pt 432 0),(8,pt 144 0),(9,kk),(10,pt 176 0),(11,ow 592),(12,pt 208 0),(13,ii)],v67_,[(592,.arr 62 (.pair I6 (.pair (.sl I6) (.pair (.pair I6 (.pair I6 (.pair I6 tT4))) (.pair (.str) (.pair I6 I6)))))),(3353,.arr 5 (.int .u8))]⟩,[⟨.x 0,⟨[(1,kk),(2,kk),(7,pt 432 0),(8,pt 144 0),(9,kk),(10,pt 176 0),(12,pt 208 0)],v67_,[(3353,.arr 5 (.int .u8))]⟩⟩])) (nn (mm (mm (nn (mm (.mk [.fz [14,12]] none .nil .nil) .nil)) .nil) .nil)) .nil) .nil)) (nn (mm (nn (.mk [.join [⟨.n,⟨[(8,pt 144 0),(9,ii),(10,pt 176 0),(12,pt 208 0),(16,pt 272 0)],[(144,32,[.data (.sl (.str)),.data (.sl (.pair (.str) tT5)),.data (.sl (.pair (.str) (.pair I6 I6))),.data (.sl tT3),.data I6,.data I6]),(176,44,[.data (.sl tT2),.keep,.keep,.keep,.keep,.keep,.data I6]),(208,50,[.data (.sl (.int .u8)),.keep]),(272,62,[.data I6,.own 4393,.keep,.keep,.data I6,.keep,.keep,.keep,.keep,.data (.str),.keep,.data I6])],[(4393,.arr 3 I6)]⟩⟩]] none (nn (nn (nn (nn (nn (nn (nn (nn (nn (nn (nn (nn (nn (nn (nn (mm (.mk [.fz [12]] none .nil .nil) .nil)))))))))))))))) .nil)) .nil))))))))))) func3 ⟨⟨qtd,qr0,qvO,qnt,qbc,qp6,qhV,qlQ,qoO,qkM,qtD,qpp,qjK,qlv,qjZ,qsj,trivial⟩,trivial⟩
end
end Go.Proofs.YtgmjmgihjjddmaaGreat
