/- Functions, evaluated. No condition. -/
import Derived.Test.YtmdijohmddokhaaGreatDoorProg
import Derived.Test.YtmdijohmddokhaaGreatDoorQv
namespace Go.Proofs.YtmdijohmddokhaaGreatDoor
open Go Go.Sq
open Go.Proofs.Tryz
noncomputable section
def qbI(n:Int):Option (List UInt8):=
 bif decide (n<0) then(
 (qmt n).bind fun r=>
 gd (Nat.ble ([45].length+r.length) 9223372036854775807)<|
 some ([45]++r))
 else(
 (qmt (wi64 (0-n))).bind fun r2=>
 some r2)
def qdx:Fun:=
 ⟨135,1,1,
 ⟨[(0,ii)],[],[]⟩,
 ⟨[(0,ss)],[],[]⟩,
 fun x=>qbI x⟩
theorem qfb:FO qdx:=fi [] [qmu] 11 [] .nil func135 ⟨⟨qsq,trivial⟩,trivial⟩
def qbo(r:yB1)(s2:List UInt8)(i:Int):Option ((List UInt8×Int)⊕((List UInt8)⊕(List UInt8))):=
 bif decide (i<(r.2.1.length:Int)) then(
 gd (inB i r.2.1.length)<|
 (qgo (r.2.1.getD i.toNat 0)).bind fun r3=>
 bif !r3 then(
 some (.inr (.inr [])))
 else(
 gd (Nat.ble (s2.length+[32].length) 9223372036854775807)<|
 gd (inB i r.2.1.length)<|
 (qbI (r.2.1.getD i.toNat 0)).bind fun r4=>
 gd (Nat.ble ((s2++[32]).length+r4.length) 9223372036854775807)<|
 some (.inl ((s2++[32])++r4,wi64 (i+1)))))
 else(
 some (.inr (.inl s2)))
def qgJ(r:yB1):Option (List UInt8):=
 Option.bind (α:=Bool) (
 (qch (r.2.2.1.1,r.2.2.1.2.1,r.2.2.1.2.2.1,r.2.2.1.2.2.2.1,r.2.2.1.2.2.2.2.1,r.2.2.1.2.2.2.2.2.1,r.2.2.1.2.2.2.2.2.2) (0,0,0,0,0,[],0)).bind fun r2=>
 bif !r2 then(
 some true)
 else(
 bif !(decide (r.2.2.2.1=[])&&(decide (r.2.2.2.2.1=0)&&decide (r.2.2.2.2.2=0))) then(
 some true)
 else(
 bif decide ((r.2.1.length:Int)<5) then(
 some true)
 else(
 some (decide (21<(r.2.1.length:Int))))))) fun s=>
 bif s then(
 some [])
 else(
 (iter (fun x=>qbo r x.1 x.2) ([116,101,108,101,103,114,97,109],0)).bind fun s3=>
 s3.elim (fun s4=>
 some s4)
 (fun s5=>
 some s5))
def qjW:Fun:=
 ⟨62,1,1,
 ⟨r17_,[],[]⟩,
 ⟨[(0,ss)],[],[]⟩,
 fun x=>qgJ x⟩
theorem qqa:FO qjW:=fi [] [qc7,qeM,qdx] 52 [] ((nn (mm (mm (.mk [.join [⟨.n,⟨[(1,pt 32 0),(27,bb)],[(32,61,kp 12)],[]⟩⟩]] none .nil .nil) .nil) (nn (mm (nn (mm (.mk [] (some (⟨[(1,pt 32 0),(3,ss),(4,ii)],[(32,61,kp 12)],[]⟩,[⟨.x 0,⟨[(3,ss)],[],[]⟩⟩,⟨.r,⟨[(2,ss)],[],[]⟩⟩])) .nil .nil) .nil)) .nil))))) func62 ⟨⟨qej,qgI,qfb,trivial⟩,trivial⟩
def qjX(s:yB6):Option (Bool):=
 (qch (0,0,0,s.2.2.2.1,s.2.2.2.2.1,s.2.2.2.2.2.1,s.2.2.2.2.2.2) (0,0,0,0,0,[],0)).bind fun r=>
 some r
def qpw:Fun:=
 ⟨136,1,1,
 ⟨[(0,dd tT2)],[],[]⟩,
 ⟨[(0,bb)],[],[]⟩,
 fun x=>qjX x⟩
theorem quB:FO qpw:=fi [] [qc7] 8 [] .nil func136 ⟨⟨qej,trivial⟩,trivial⟩
def qcP(n:yB0)(s:yB6)(out:List UInt8)(i:Int):Option ((List UInt8×Int)⊕((List UInt8)⊕(List UInt8))):=
 bif decide (i<(s.2.2.2.2.2.1.length:Int)) then(
 gd (inB i s.2.2.2.2.2.1.length)<|
 Option.bind (α:=Bool) (
 bif decide ((s.2.2.2.2.2.1.getD i.toNat (0,false)).1<0) then(
 some true)
 else(
 some (decide ((n.2.1.length:Int)<=(s.2.2.2.2.2.1.getD i.toNat (0,false)).1)))) fun s3=>
 bif s3 then(
 some (.inr (.inr [])))
 else(
 gd (Nat.ble (out.length+[32].length) 9223372036854775807)<|
 Option.bind (α:=List UInt8) (
 bif (s.2.2.2.2.2.1.getD i.toNat (0,false)).2 then(
 gd (Nat.ble ((out++[32]).length+[45].length) 9223372036854775807)<|
 some ((out++[32])++[45]))
 else(
 some (out++[32]))) fun s4=>
 gd (inB ((s.2.2.2.2.2.1.getD i.toNat (0,false)).1) n.2.1.length)<|
 gd (Nat.ble (s4.length+((n.2.1.getD ((s.2.2.2.2.2.1.getD i.toNat (0,false)).1).toNat ([],0,0,0,0,0,[])).1).length) 9223372036854775807)<|
 some (.inl (s4++((n.2.1.getD ((s.2.2.2.2.2.1.getD i.toNat (0,false)).1).toNat ([],(0,(0,(0,(0,(0,[]))))))).1),wi64 (i+1)))))
 else(
 some (.inr (.inl out)))
def qm3(n:yB0)(s:yB6):Option (List UInt8):=
 Option.bind (α:=Bool) (
 bif !decide (s.2.1=0) then(
 some true)
 else(
 bif !decide (s.2.2.2.2.2.2=0) then(
 some true)
 else(
 (qgo s.2.2.1).bind fun r=>
 bif !r then(
 some true)
 else(
 bif decide (s.2.2.2.1<0) then(
 some true)
 else(
 bif decide ((n.2.2.1.length:Int)<=s.2.2.2.1) then(
 some true)
 else(
 bif decide (s.2.2.2.2.1<0) then(
 some true)
 else(
 bif decide ((n.2.2.1.length:Int)<=s.2.2.2.2.1) then(
 some true)
 else(
 some (decide (32<(s.2.2.2.2.2.1.length:Int))))))))))) fun s2=>
 bif s2 then(
 some [])
 else(
 (qbI s.2.2.1).bind fun r2=>
 gd (Nat.ble ([102,108,111,119,32].length+r2.length) 9223372036854775807)<|
 gd (Nat.ble (([102,108,111,119,32]++r2).length+[32].length) 9223372036854775807)<|
 gd (inB s.2.2.2.1 n.2.2.1.length)<|
 gd (Nat.ble ((([102,108,111,119,32]++r2)++[32]).length+((n.2.2.1.getD s.2.2.2.1.toNat ([],0,0)).1).length) 9223372036854775807)<|
 gd (Nat.ble (((([102,108,111,119,32]++r2)++[32])++((n.2.2.1.getD s.2.2.2.1.toNat ([],0,0)).1)).length+[32].length) 9223372036854775807)<|
 gd (inB s.2.2.2.2.1 n.2.2.1.length)<|
 gd (Nat.ble ((((([102,108,111,119,32]++r2)++[32])++((n.2.2.1.getD s.2.2.2.1.toNat ([],0,0)).1))++[32]).length+((n.2.2.1.getD s.2.2.2.2.1.toNat ([],0,0)).1).length) 9223372036854775807)<|
 (iter (fun x=>qcP n s x.1 x.2) ((((([102,108,111,119,32]++r2)++[32])++((n.2.2.1.getD s.2.2.2.1.toNat ([],0,0)).1))++[32])++((n.2.2.1.getD s.2.2.2.2.1.toNat ([],0,0)).1),0)).bind fun s5=>
 s5.elim (fun s6=>
 some s6)
 (fun s7=>
 some s7))
def qpx:Fun:=
 ⟨137,2,1,
 ⟨[(0,dd tT0),(1,dd tT2)],[],[]⟩,
 ⟨[(0,ss)],[],[]⟩,
 fun x=>qm3 x.1 x.2⟩
theorem quC:FO qpx:=fi [] [qeM,qdx] 118 [] ((nn (nn (mm (mm (.mk [.join [⟨.n,⟨[(2,pt 48 0),(3,pt 64 0),(5,pt 96 0),(56,bb)],[(48,32,kp 6),(64,57,kp 7),(96,55,kp 4)],[]⟩⟩]] none .nil .nil) .nil) (nn (mm (nn (mm (.mk [] (some (⟨[(2,pt 48 0),(5,pt 96 0),(6,ss),(7,ii)],[(48,32,kp 6),(96,55,kp 4)],[]⟩,[⟨.x 0,⟨[(6,ss)],[],[]⟩⟩,⟨.r,⟨[(4,ss)],[],[]⟩⟩])) (nn (mm (mm (nn (mm (mm (.mk [.join [⟨.n,⟨[(2,pt 48 0),(5,pt 96 0),(6,kk),(7,kk),(8,pt 144 0),(101,bb)],v123_,[]⟩⟩]] none .nil .nil) .nil) (nn (mm (nn (.mk [.join [⟨.n,⟨[(2,pt 48 0),(5,pt 96 0),(6,ss),(7,kk),(8,pt 144 0)],v123_,[]⟩⟩]] none .nil .nil)) .nil)))) .nil) .nil)) .nil) .nil)) .nil)))))) func137 ⟨⟨qgI,qfb,trivial⟩,trivial⟩
def qm4(n:yB0)(s:yB6):Option (List UInt8):=
 Option.bind (α:=Bool) (
 bif decide (s.1=1) then(
 some (decide (s.1=1)))
 else(
 some (decide (s.1=2)))) fun s2=>
 bif s2 then(
 Option.bind (α:=Bool) (
 bif decide (s.2.1<0) then(
 some true)
 else(
 (qdj (n.1,n.2.1,n.2.2.1,n.2.2.2.1,n.2.2.2.2.1,n.2.2.2.2.2)).bind fun r=>
 bif decide (r<=s.2.1) then(
 some true)
 else(
 bif !decide (s.2.2.1=0) then(
 some true)
 else(
 (qjX (s.1,s.2.1,s.2.2.1,s.2.2.2.1,s.2.2.2.2.1,s.2.2.2.2.2.1,s.2.2.2.2.2.2)).bind fun r2=>
 some (!r2))))) fun s3=>
 bif s3 then(
 some [])
 else(
 gd (inB s.1 ([[],[111,112,101,110,32],[99,108,111,115,101,32]]:List (List UInt8)).length)<|
 (qbI s.2.1).bind fun r3=>
 gd (Nat.ble ((([[],[111,112,101,110,32],[99,108,111,115,101,32]]:List (List UInt8)).getD s.1.toNat []).length+r3.length) 9223372036854775807)<|
 some ((([[],[111,112,101,110,32],[99,108,111,115,101,32]]:List (List UInt8)).getD s.1.toNat [])++r3)))
 else(
 Option.bind (α:=Bool) (
 bif decide (s.1=3) then(
 some (decide (s.1=3)))
 else(
 some (decide (s.1=4)))) fun s4=>
 bif s4 then(
 Option.bind (α:=Bool) (
 bif decide (s.2.1<0) then(
 some true)
 else(
 bif decide ((n.2.2.2.1.length:Int)<=s.2.1) then(
 some true)
 else(
 bif !decide (s.2.2.1=0) then(
 some true)
 else(
 (qjX (s.1,s.2.1,s.2.2.1,s.2.2.2.1,s.2.2.2.2.1,s.2.2.2.2.2.1,s.2.2.2.2.2.2)).bind fun r4=>
 some (!r4))))) fun s5=>
 bif s5 then(
 some [])
 else(
 gd (inB (wi64 (s.1-3)) ([[115,116,97,114,116,32],[115,116,111,112,32]]:List (List UInt8)).length)<|
 gd (inB s.2.1 n.2.2.2.1.length)<|
 gd (Nat.ble ((([[115,116,97,114,116,32],[115,116,111,112,32]]:List (List UInt8)).getD (wi64 (s.1-3)).toNat []).length+((n.2.2.2.1.getD s.2.1.toNat ([],0,0,0,0)).1).length) 9223372036854775807)<|
 some ((([[115,116,97,114,116,32],[115,116,111,112,32]]:List (List UInt8)).getD (wi64 (s.1-3)).toNat [])++((n.2.2.2.1.getD s.2.1.toNat ([],(0,(0,(0,0))))).1))))
 else(
 bif decide (s.1=6) then(
 Option.bind (α:=Bool) (
 bif !decide (s.2.1=0) then(
 some true)
 else(
 (qjX (s.1,s.2.1,s.2.2.1,s.2.2.2.1,s.2.2.2.2.1,s.2.2.2.2.2.1,s.2.2.2.2.2.2)).bind fun r5=>
 bif !r5 then(
 some true)
 else(
 (qgo s.2.2.1).bind fun r6=>
 some (!r6)))) fun s6=>
 bif s6 then(
 some [])
 else(
 (qbI s.2.2.1).bind fun r7=>
 gd (Nat.ble ([119,97,105,116,32].length+r7.length) 9223372036854775807)<|
 some ([119,97,105,116,32]++r7)))
 else(
 bif decide (s.1=5) then(
 (qm3 (n.1,n.2.1,n.2.2.1,n.2.2.2.1,n.2.2.2.2.1,n.2.2.2.2.2) (s.1,s.2.1,s.2.2.1,s.2.2.2.1,s.2.2.2.2.1,s.2.2.2.2.2.1,s.2.2.2.2.2.2)).bind fun r8=>
 some r8)
 else(
 some []))))
def qpy:Fun:=
 ⟨63,2,1,
 ⟨[(0,dd tT0),(1,dd tT2)],[],[]⟩,
 ⟨[(0,ss)],[],[]⟩,
 fun x=>qm4 x.1 x.2⟩
theorem quD:FO qpy:=fi [] [qe6,qpw,qdx,qeM,qpx] 102 [] ((nn (mm (nn (mm (mm (nn (.mk [.join [⟨.n,⟨[(2,pt 48 0),(3,pt 64 0),(6,kk),(7,bb)],v138_,[]⟩⟩]] none .nil .nil)) (mm (mm (mm (.mk [.join [⟨.n,⟨[(3,pt 64 0),(29,bb)],[(64,57,kp 7)],[]⟩⟩]] none .nil .nil) .nil) .nil) (mm (nn (.mk [.join [⟨.n,⟨[(2,pt 48 0),(3,pt 64 0),(6,kk),(39,bb)],v138_,[]⟩⟩]] none .nil .nil)) (mm (mm (mm (.mk [.join [⟨.n,⟨[(2,pt 48 0),(3,pt 64 0),(62,bb)],v138_,[]⟩⟩]] none .nil .nil) .nil) .nil) (nn (mm (mm (mm (.mk [.join [⟨.n,⟨[(3,pt 64 0),(92,bb)],[(64,57,kp 7)],[]⟩⟩]] none .nil .nil) .nil) .nil) .nil)))))) .nil)) .nil))) func63 ⟨⟨qhq,quB,qfb,qgI,quC,trivial⟩,trivial⟩
def qsr:Option (List (List UInt8)):=
 some ([[],[114,101,99,101,105,118,101,100],[100,101,108,105,118,101,114,101,100],[115,108,111,112],[115,104,97,114,101]]:List (List UInt8))
def qnX:Fun:=
 ⟨139,0,1,
 ⟨[],[],[]⟩,
 ⟨r81_,[],[]⟩,
 fun x=>qsr⟩
theorem qtb:FO qnX:=fi [] [] 2 [] .nil func139 ⟨trivial,trivial⟩
def qkJ(e:List UInt8×Int×Int):Option (List UInt8):=
 Option.bind (α:=Bool) (
 bif decide (e.2.1<1) then(
 some true)
 else(
 bif decide (4<e.2.1) then(
 some true)
 else(
 (qcn e.1).bind fun r=>
 bif !r then(
 some true)
 else(
 (qgo e.2.2).bind fun r2=>
 some (!r2))))) fun s=>
 bif s then(
 some [])
 else(
 (qsr).bind fun r3=>
 gd (inB e.2.1 r3.length)<|
 gd (Nat.ble ([101,110,116,114,121,32].length+(r3.getD e.2.1.toNat []).length) 9223372036854775807)<|
 gd (Nat.ble (([101,110,116,114,121,32]++(r3.getD e.2.1.toNat [])).length+[32].length) 9223372036854775807)<|
 gd (Nat.ble ((([101,110,116,114,121,32]++(r3.getD e.2.1.toNat []))++[32]).length+e.1.length) 9223372036854775807)<|
 gd (Nat.ble (((([101,110,116,114,121,32]++(r3.getD e.2.1.toNat []))++[32])++e.1).length+[32].length) 9223372036854775807)<|
 (qbI e.2.2).bind fun r4=>
 gd (Nat.ble ((((([101,110,116,114,121,32]++(r3.getD e.2.1.toNat []))++[32])++e.1)++[32]).length+r4.length) 9223372036854775807)<|
 some ((((([101,110,116,114,121,32]++(r3.getD e.2.1.toNat []))++[32])++e.1)++[32])++r4))
def qnY:Fun:=
 ⟨65,1,1,
 ⟨[(0,dd tT7)],[],[]⟩,
 ⟨[(0,ss)],[],[]⟩,
 fun x=>qkJ x⟩
theorem qtc:FO qnY:=fi [] [qfV,qeM,qnX,qdx] 38 [] ((nn (mm (mm (.mk [.join [⟨.n,⟨[(1,pt 32 0),(22,bb)],v88_,[]⟩⟩]] none .nil .nil) .nil) .nil))) func65 ⟨⟨qhT,qgI,qtb,qfb,trivial⟩,trivial⟩
def qjb(n:yB0)(r:yB1):Option (List UInt8×Int):=
 (qd2 (n.1,n.2.1,n.2.2.1,n.2.2.2.1,n.2.2.2.2.1,n.2.2.2.2.2)).bind fun r2=>
 bif !decide (r2=0) then(
 some ([],r2))
 else(
 Option.bind (α:=List UInt8) (
 bif decide (r.1=1) then(
 (qgJ (r.1,r.2.1,(r.2.2.1.1,r.2.2.1.2.1,r.2.2.1.2.2.1,r.2.2.1.2.2.2.1,r.2.2.1.2.2.2.2.1,r.2.2.1.2.2.2.2.2.1,r.2.2.1.2.2.2.2.2.2),r.2.2.2.1,r.2.2.2.2.1,r.2.2.2.2.2)).bind fun r3=>
 some r3)
 else(
 Option.bind (α:=List UInt8) (
 bif decide (r.1=2) then(
 Option.bind (α:=Bool) (
 bif decide ((r.2.1.length:Int)=0) then(
 some (decide (r.2.2.2.1=[])&&(decide (r.2.2.2.2.1=0)&&decide (r.2.2.2.2.2=0))))
 else(
 some false)) fun s=>
 Option.bind (α:=List UInt8) (
 bif s then(
 (qm4 (n.1,n.2.1,n.2.2.1,n.2.2.2.1,n.2.2.2.2.1,n.2.2.2.2.2) (r.2.2.1.1,r.2.2.1.2.1,r.2.2.1.2.2.1,r.2.2.1.2.2.2.1,r.2.2.1.2.2.2.2.1,r.2.2.1.2.2.2.2.2.1,r.2.2.1.2.2.2.2.2.2)).bind fun r4=>
 some r4)
 else(
 some [])) fun s2=>
 some s2)
 else(
 Option.bind (α:=List UInt8) (
 bif decide (r.1=3) then(
 Option.bind (α:=Bool) (
 bif decide ((r.2.1.length:Int)=0) then(
 (qch (r.2.2.1.1,r.2.2.1.2.1,r.2.2.1.2.2.1,r.2.2.1.2.2.2.1,r.2.2.1.2.2.2.2.1,r.2.2.1.2.2.2.2.2.1,r.2.2.1.2.2.2.2.2.2) (0,0,0,0,0,[],0)).bind fun r5=>
 some r5)
 else(
 some false)) fun s3=>
 Option.bind (α:=List UInt8) (
 bif s3 then(
 (qkJ (r.2.2.2.1,r.2.2.2.2.1,r.2.2.2.2.2)).bind fun r6=>
 some r6)
 else(
 some [])) fun s4=>
 some s4)
 else(
 some [])) fun s5=>
 some s5)) fun s6=>
 some s6)) fun s7=>
 bif decide (s7=[]) then(
 some ([],28))
 else(
 gd (Nat.ble (s7.length+[10].length) 9223372036854775807)<|
 some (s7++[10],0)))
def qmv:Fun:=
 ⟨20,2,2,
 ⟨r68_,[],[]⟩,
 ⟨[(0,ss),(1,ii)],[],[]⟩,
 fun x=>qjb x.1 x.2⟩
theorem qss:FO qmv:=fi [] [qdD,qjW,qpy,qc7,qnY] 54 [] ((nn (nn (nn (mm (nn (mm (nn (.mk [.join [⟨.n,⟨[(7,ss)],[],[]⟩⟩]] none .nil (nn (.mk [.join [⟨.n,⟨[(7,ss)],[],[]⟩⟩]] none (mm (.mk [.join [⟨.n,⟨[(2,pt 48 0),(3,pt 64 0),(7,kk),(30,bb)],[(48,32,kp 6),(64,61,kp 12)],[]⟩⟩]] none .nil .nil) (.mk [.join [⟨.n,⟨[(7,ss)],[],[]⟩⟩]] none .nil .nil)) (nn (.mk [.join [⟨.n,⟨[(7,ss)],[],[]⟩⟩]] none (mm (.mk [.join [⟨.n,⟨[(3,pt 64 0),(7,kk),(46,bb)],[(64,61,kp 12)],[]⟩⟩]] none .nil .nil) (.mk [.join [⟨.n,⟨[(7,ss)],[],[]⟩⟩]] none .nil .nil)) .nil)))))) .nil)) .nil))))) func20 ⟨⟨qeH,qqa,quD,qej,qtc,trivial⟩,trivial⟩
def qjr(n:yB0)(r:yB11×List Int×Int×List yB1)(i:Int)(s3:List Int)(s4:Int)(l:List yB1):Option ((Int×List Int×Int×List yB1)⊕(List Int×Int×List yB1)):=
 bif decide (0<i) then(
 (qfX (n.1,n.2.1,n.2.2.1,n.2.2.2.1,n.2.2.2.2.1,n.2.2.2.2.2) ((r.1.1.1,r.1.1.2.1,r.1.1.2.2.1,r.1.1.2.2.2),r.1.2.1,r.1.2.2.1,r.1.2.2.2) s3 s4).bind fun r3=>
 gd (fits (l.length+1) 136)<|
 some (.inl (wi64 (i-1),r3.2.1,r3.2.2,l++[(r3.1.1,(r3.1.2.1,((r3.1.2.2.1.1,(r3.1.2.2.1.2.1,(r3.1.2.2.1.2.2.1,(r3.1.2.2.1.2.2.2.1,(r3.1.2.2.1.2.2.2.2.1,(r3.1.2.2.1.2.2.2.2.2.1,r3.1.2.2.1.2.2.2.2.2.2)))))),(r3.1.2.2.2.1,(r3.1.2.2.2.2.1,r3.1.2.2.2.2.2)))))])))
 else(
 some (.inr (s3,s4,l)))
def qgK(n:yB0)(text:List UInt8)(i2:Int)(l2:List yB1):Option ((List UInt8×Int×List yB1)⊕(List UInt8)):=
 bif decide (i2<(l2.length:Int)) then(
 gd (inB i2 l2.length)<|
 (qjb (n.1,n.2.1,n.2.2.1,n.2.2.2.1,n.2.2.2.2.1,n.2.2.2.2.2) (l2.getD i2.toNat (0,[],(0,0,0,0,0,[],0),[],0,0))).bind fun r4=>
 Option.bind (α:=List UInt8×List yB1) (
 bif decide (r4.2=0) then(
 gd (Nat.ble (text.length+r4.1.length) 9223372036854775807)<|
 some (text++r4.1,l2))
 else(
 some (text,l2))) fun s6=>
 some (.inl (s6.1,wi64 (i2+1),s6.2)))
 else(
 some (.inr text))
def qkK(n:yB0)(s:List Int)(s2:Int):Option (List UInt8×List Int×Int):=
 (qhZ (n.1,n.2.1,n.2.2.1,n.2.2.2.1,n.2.2.2.2.1,n.2.2.2.2.2) 1 10 s s2).bind fun r=>
 (qab 3 r.2.1 r.2.2.1).bind fun r2=>
 (iter (fun x=>qjr n r x.1 x.2.1 x.2.2.1 x.2.2.2) (r2.1,r2.2.1,r2.2.2,r.2.2.2)).bind fun s5=>
 (iter (fun x2=>qgK n x2.1 x2.2.1 x2.2.2) ([],0,s5.2.2)).bind fun s7=>
 some (s7,s5.1,s5.2.1)
def qnZ:Fun:=
 ⟨11,2,1,
 ⟨[(0,pt 0 0),(1,dd tT0)],v3_,[]⟩,
 ⟨[(0,ss)],v3_,[]⟩,
 fun x=>qkK x.1 x.2.1 x.2.2⟩
theorem qtd:FO qnZ:=fi [] [qlh,qa8,qhs,qmv] 52 [] ((nn (nn (mm (nn (mm (.mk [] (some (⟨[(0,pt 0 0),(3,pt 64 0),(5,pt 96 0),(6,ow 123),(7,ii)],[(0,87,[.data (.sl I6),.data I6]),(64,32,kp 6),(96,48,kp 7)],a49_⟩,[⟨.x 0,⟨[(3,pt 64 0),(6,ow 123)],[(64,32,kp 6),(0,87,[.data (.sl I6),.data I6])],a49_⟩⟩])) .nil .nil) .nil)) (nn (mm (nn (mm (.mk [] (some (⟨[(3,pt 64 0),(6,ow 123),(8,ss),(9,ii)],[(64,32,kp 6),(0,87,[.keep,.keep])],a49_⟩,[⟨.x 2,⟨[(8,ss)],[(0,87,[.keep,.keep])],[]⟩⟩])) (nn (mm (mm (nn (nn (.mk [.join [⟨.n,⟨[(3,pt 64 0),(6,ow 123),(8,ss),(9,kk)],[(64,32,kp 6),(0,87,[.keep,.keep])],a49_⟩⟩]] none .nil .nil))) .nil) .nil)) .nil) .nil)) .nil)))))) func11 ⟨⟨qqW,qbk,qle,qss,trivial⟩,trivial⟩
def qeO(n:yB0)(r:yB1):Option (List UInt8×Int):=
 (qbE (n.1,n.2.1,n.2.2.1,n.2.2.2.1,n.2.2.2.2.1,n.2.2.2.2.2)).bind fun r2=>
 bif !decide (r2=0) then(
 some ([],r2))
 else(
 (qev (n.1,n.2.1,n.2.2.1,n.2.2.2.1,n.2.2.2.2.1,n.2.2.2.2.2) (r.1,r.2.1,(r.2.2.1.1,r.2.2.1.2.1,r.2.2.1.2.2.1,r.2.2.1.2.2.2.1,r.2.2.1.2.2.2.2.1,r.2.2.1.2.2.2.2.2.1,r.2.2.1.2.2.2.2.2.2),r.2.2.2.1,r.2.2.2.2.1,r.2.2.2.2.2)).bind fun r3=>
 bif !r3.2 then(
 some ([],28))
 else(
 gd (Nat.ble (r3.1.length+[10].length) 9223372036854775807)<|
 some (r3.1++[10],0)))
def qjY:Fun:=
 ⟨14,2,2,
 ⟨r68_,[],[]⟩,
 ⟨[(0,ss),(1,ii)],[],[]⟩,
 fun x=>qeO x.1 x.2⟩
theorem qqb:FO qjY:=fi [] [qbv,qge] 24 [] .nil func14 ⟨⟨qb1,qjD,trivial⟩,trivial⟩
def qf0(a:yB4)(b:yB4)(i:Int):Option (Int⊕(Unit⊕Bool)):=
 bif decide (i<(a.length:Int)) then(
 gd (inB i a.length)<|
 gd (inB i b.length)<|
 bif !(decide ((a.getD i.toNat (0,0,false,false)).1=(b.getD i.toNat (0,0,false,false)).1)&&(decide (((a.getD i.toNat (0,0,false,false)).2).1=((b.getD i.toNat (0,0,false,false)).2).1)&&(((((a.getD i.toNat (0,0,false,false)).2).2).1==(((b.getD i.toNat (0,0,false,false)).2).2).1)&&((((a.getD i.toNat (0,0,false,false)).2).2).2==(((b.getD i.toNat (0,0,false,false)).2).2).2)))) then(
 some (.inr (.inr false)))
 else(
 some (.inl (wi64 (i+1)))))
 else(
 some (.inr (.inl ())))
def qm5(a:yB4)(b:yB4):Option (Bool):=
 bif !decide ((a.length:Int)=(b.length:Int)) then(
 some false)
 else(
 (iter (fun x=>qf0 a b x) 0).bind fun s=>
 s.elim (fun s2=>
 some true)
 (fun s3=>
 some s3))
def qpz:Fun:=
 ⟨109,2,1,
 ⟨[(0,dd (.sl tT1)),(1,dd (.sl tT1))],[],[]⟩,
 ⟨[(0,bb)],[],[]⟩,
 fun x=>qm5 x.1 x.2⟩
theorem quE:FO qpz:=fi [] [] 26 [] ((nn (nn (mm (nn (mm (.mk [] (some (⟨r139_,[],[]⟩,[⟨.x 0,⟨[],[],[]⟩⟩,⟨.r,⟨[(4,bb)],[],[]⟩⟩])) .nil .nil) .nil)) .nil)))) func109 ⟨trivial,trivial⟩
def qc8(a:List Int)(b:List Int)(i:Int):Option (Int⊕(Unit⊕Bool)):=
 bif decide (i<(a.length:Int)) then(
 gd (inB i a.length)<|
 gd (inB i b.length)<|
 bif !decide (a.getD i.toNat 0=b.getD i.toNat 0) then(
 some (.inr (.inr false)))
 else(
 some (.inl (wi64 (i+1)))))
 else(
 some (.inr (.inl ())))
def qdG(a:List Int)(b:List Int):Option (Bool):=
 bif !decide ((a.length:Int)=(b.length:Int)) then(
 some false)
 else(
 (iter (fun x=>qc8 a b x) 0).bind fun s=>
 s.elim (fun s2=>
 some true)
 (fun s3=>
 some s3))
def qgq:Fun:=
 ⟨111,2,1,
 ⟨[(0,dd (.sl I6)),(1,dd (.sl I6))],[],[]⟩,
 ⟨[(0,bb)],[],[]⟩,
 fun x=>qdG x.1 x.2⟩
theorem qjZ:FO qgq:=fi [] [] 26 [] ((nn (nn (mm (nn (mm (.mk [] (some (⟨r139_,[],[]⟩,[⟨.x 0,⟨[],[],[]⟩⟩,⟨.r,⟨[(4,bb)],[],[]⟩⟩])) .nil .nil) .nil)) .nil)))) func111 ⟨trivial,trivial⟩
def qcQ(a:List Bool)(b:List Bool)(i:Int):Option (Int⊕(Unit⊕Bool)):=
 bif decide (i<(a.length:Int)) then(
 gd (inB i a.length)<|
 gd (inB i b.length)<|
 bif !(a.getD i.toNat false==b.getD i.toNat false) then(
 some (.inr (.inr false)))
 else(
 some (.inl (wi64 (i+1)))))
 else(
 some (.inr (.inl ())))
def qf1(a:List Bool)(b:List Bool):Option (Bool):=
 bif !decide ((a.length:Int)=(b.length:Int)) then(
 some false)
 else(
 (iter (fun x=>qcQ a b x) 0).bind fun s=>
 s.elim (fun s2=>
 some true)
 (fun s3=>
 some s3))
def qjc:Fun:=
 ⟨200,2,1,
 ⟨[(0,dd (.sl (.bool))),(1,dd (.sl (.bool)))],[],[]⟩,
 ⟨[(0,bb)],[],[]⟩,
 fun x=>qf1 x.1 x.2⟩
theorem qpA:FO qjc:=fi [] [] 26 [] ((nn (nn (mm (nn (mm (.mk [] (some (⟨r139_,[],[]⟩,[⟨.x 0,⟨[],[],[]⟩⟩,⟨.r,⟨[(4,bb)],[],[]⟩⟩])) .nil .nil) .nil)) .nil)))) func200 ⟨trivial,trivial⟩
def qgL(a:yB7)(b:yB7):Option (Bool):=
 (qdG a.1 b.1).bind fun r=>
 bif r then(
 (qdG a.2.1 b.2.1).bind fun r2=>
 bif r2 then(
 (qf1 a.2.2 b.2.2).bind fun r3=>
 some r3)
 else(
 some false))
 else(
 some false)
def qj0:Fun:=
 ⟨110,2,1,
 ⟨[(0,dd tT6),(1,dd tT6)],[],[]⟩,
 ⟨[(0,bb)],[],[]⟩,
 fun x=>qgL x.1 x.2⟩
theorem qqc:FO qj0:=fi [] [qgq,qjc] 24 [] .nil func110 ⟨⟨qjZ,qpA,trivial⟩,trivial⟩
def qm6(a:yB5)(b:yB5):Option (Bool):=
 (qm5 a.1 b.1).bind fun r=>
 bif r then(
 (qgL (a.2.1,a.2.2.1,a.2.2.2) (b.2.1,b.2.2.1,b.2.2.2)).bind fun r2=>
 some r2)
 else(
 some false)
def qpB:Fun:=
 ⟨45,2,1,
 ⟨[(0,dd (.pair (.sl tT1) tT6)),(1,dd (.pair (.sl tT1) tT6))],[],[]⟩,
 ⟨[(0,bb)],[],[]⟩,
 fun x=>qm6 x.1 x.2⟩
theorem quF:FO qpB:=fi [] [qpz,qj0] 17 [] .nil func45 ⟨⟨quE,qqc,trivial⟩,trivial⟩
def qf2(a:List yB2)(b:List yB2)(i:Int):Option (Int⊕(Unit⊕Bool)):=
 bif decide (i<(a.length:Int)) then(
 gd (inB i a.length)<|
 gd (inB i b.length)<|
 bif !(decide ((a.getD i.toNat ([],0,0,0,0)).1=(b.getD i.toNat ([],0,0,0,0)).1)&&(decide (((a.getD i.toNat ([],0,0,0,0)).2).1=((b.getD i.toNat ([],0,0,0,0)).2).1)&&(decide ((((a.getD i.toNat ([],0,0,0,0)).2).2).1=(((b.getD i.toNat ([],0,0,0,0)).2).2).1)&&(decide (((((a.getD i.toNat ([],0,0,0,0)).2).2).2).1=((((b.getD i.toNat ([],0,0,0,0)).2).2).2).1)&&decide (((((a.getD i.toNat ([],0,0,0,0)).2).2).2).2=((((b.getD i.toNat ([],0,0,0,0)).2).2).2).2))))) then(
 some (.inr (.inr false)))
 else(
 some (.inl (wi64 (i+1)))))
 else(
 some (.inr (.inl ())))
def qm7(a:List yB2)(b:List yB2):Option (Bool):=
 bif !decide ((a.length:Int)=(b.length:Int)) then(
 some false)
 else(
 (iter (fun x=>qf2 a b x) 0).bind fun s=>
 s.elim (fun s2=>
 some true)
 (fun s3=>
 some s3))
def qpC:Fun:=
 ⟨46,2,1,
 ⟨[(0,dd (.sl tT4)),(1,dd (.sl tT4))],[],[]⟩,
 ⟨[(0,bb)],[],[]⟩,
 fun x=>qm7 x.1 x.2⟩
theorem quG:FO qpC:=fi [] [] 26 [] ((nn (nn (mm (nn (mm (.mk [] (some (⟨r139_,[],[]⟩,[⟨.x 0,⟨[],[],[]⟩⟩,⟨.r,⟨[(4,bb)],[],[]⟩⟩])) .nil .nil) .nil)) .nil)))) func46 ⟨trivial,trivial⟩
def qdK(a:yB3)(b:yB3):Option (Bool):=
 bif decide (a.1=b.1) then(
 bif decide (a.2.1=b.2.1) then(
 bif decide (a.2.2.1=b.2.2.1) then(
 bif decide (a.2.2.2.1=b.2.2.2.1) then(
 bif decide (a.2.2.2.2.1=b.2.2.2.2.1) then(
 (qdG a.2.2.2.2.2 b.2.2.2.2.2).bind fun r=>
 some r)
 else(
 some false))
 else(
 some false))
 else(
 some false))
 else(
 some false))
 else(
 some false)
def qhb:Fun:=
 ⟨47,2,1,
 ⟨[(0,dd tT3),(1,dd tT3)],[],[]⟩,
 ⟨[(0,bb)],[],[]⟩,
 fun x=>qdK x.1 x.2⟩
theorem qmw:FO qhb:=fi [] [qgq] 45 [] .nil func47 ⟨⟨qjZ,trivial⟩,trivial⟩
def qf3(a:yB11)(b:yB11)(i:Int):Option (Int⊕(Unit⊕Bool)):=
 bif decide (i<(a.2.1.length:Int)) then(
 gd (inB i a.2.1.length)<|
 gd (inB i b.2.1.length)<|
 (qdK (a.2.1.getD i.toNat (0,0,0,0,0,[])) (b.2.1.getD i.toNat (0,0,0,0,0,[]))).bind fun r3=>
 bif !r3 then(
 some (.inr (.inr false)))
 else(
 some (.inl (wi64 (i+1)))))
 else(
 some (.inr (.inl ())))
def qm8(a:yB11)(b:yB11):Option (Bool):=
 Option.bind (α:=Bool) (
 bif !decide (a.2.2.2=b.2.2.2) then(
 some true)
 else(
 (qm6 (a.1.1,a.1.2.1,a.1.2.2.1,a.1.2.2.2) (b.1.1,b.1.2.1,b.1.2.2.1,b.1.2.2.2)).bind fun r=>
 bif !r then(
 some true)
 else(
 (qm7 a.2.2.1 b.2.2.1).bind fun r2=>
 bif !r2 then(
 some true)
 else(
 some (!decide ((a.2.1.length:Int)=(b.2.1.length:Int))))))) fun s=>
 bif s then(
 some false)
 else(
 (iter (fun x=>qf3 a b x) 0).bind fun s2=>
 s2.elim (fun s3=>
 some true)
 (fun s4=>
 some s4))
def qpD:Fun:=
 ⟨17,2,1,
 ⟨[(0,dd (.pair (.pair (.sl tT1) tT6) (.pair (.sl tT3) (.pair (.sl tT4) I6)))),(1,dd (.pair (.pair (.sl tT1) tT6) (.pair (.sl tT3) (.pair (.sl tT4) I6))))],[],[]⟩,
 ⟨[(0,bb)],[],[]⟩,
 fun x=>qm8 x.1 x.2⟩
theorem quH:FO qpD:=fi [] [qpB,qpC,qhb] 55 [] ((nn (mm (mm (.mk [.join [⟨.n,⟨[(2,pt 48 0),(3,pt 64 0),(35,bb)],[(48,48,kp 7),(64,48,kp 7)],[]⟩⟩]] none .nil .nil) .nil) (mm (nn (mm (.mk [] (some (⟨r102_,[(48,48,kp 7),(64,48,kp 7)],[]⟩,[⟨.x 0,⟨[],[],[]⟩⟩,⟨.r,⟨[(4,bb)],[],[]⟩⟩])) .nil .nil) .nil)) .nil)))) func17 ⟨⟨quF,quG,qmw,trivial⟩,trivial⟩
def qbu(r4:yB0×List Int×Int)(r6:(List yB1)×Int×Int)(again:List UInt8)(vend:Int)(last:Int)(i:Int)(c:yB4)(c2:List Int)(c3:List Int)(c4:List Bool)(c5:List yB3)(c6:List yB2)(c7:Int):Option ((List UInt8×Int×Int×Int×yB4×List Int×List Int×List Bool×(List yB3)×(List yB2)×Int)⊕((List UInt8×Int×Int×yB4×List Int×List Int×List Bool×(List yB3)×(List yB2)×Int)⊕Bool)):=
 bif decide (i<(r6.1.length:Int)) then(
 gd (inB i r6.1.length)<|
 (qeO (r4.1.1,r4.1.2.1,r4.1.2.2.1,r4.1.2.2.2.1,r4.1.2.2.2.2.1,r4.1.2.2.2.2.2) (r6.1.getD i.toNat (0,[],(0,0,0,0,0,[],0),[],0,0))).bind fun r8=>
 bif !decide (r8.2=0) then(
 some (.inr (.inr false)))
 else(
 gd (Nat.ble (again.length+r8.1.length) 9223372036854775807)<|
 Option.bind (α:=Int×Int×yB4×List Int×List Int×List Bool×(List yB3)×(List yB2)×Int) (
 bif decide (last=0) then(
 gd (inB i r6.1.length)<|
 (qgn (r4.1.1,r4.1.2.1,r4.1.2.2.1,r4.1.2.2.2.1,r4.1.2.2.2.2.1,r4.1.2.2.2.2.2) ((c,c2,c3,c4),c5,c6,c7) (r6.1.getD i.toNat (0,[],(0,0,0,0,0,[],0),[],0,0))).bind fun r9=>
 Option.bind (α:=Int×Int×yB4×List Int×List Int×List Bool×(List yB3)×(List yB2)×Int) (
 bif decide (r9.2=0) then(
 some (vend,last,r9.1.1.1,r9.1.1.2.1,r9.1.1.2.2.1,r9.1.1.2.2.2,r9.1.2.1,r9.1.2.2.1,r9.1.2.2.2))
 else(
 some (wi64 (i+1),r9.2,c,c2,c3,c4,c5,c6,c7))) fun s2=>
 some (s2.1,s2.2.1,s2.2.2.1,s2.2.2.2.1,s2.2.2.2.2.1,s2.2.2.2.2.2.1,s2.2.2.2.2.2.2.1,s2.2.2.2.2.2.2.2.1,s2.2.2.2.2.2.2.2.2))
 else(
 some (vend,last,c,c2,c3,c4,c5,c6,c7))) fun s3=>
 some (.inl (again++r8.1,s3.1,s3.2.1,wi64 (i+1),s3.2.2.1,s3.2.2.2.1,s3.2.2.2.2.1,s3.2.2.2.2.2.1,s3.2.2.2.2.2.2.1,s3.2.2.2.2.2.2.2.1,s3.2.2.2.2.2.2.2.2))))
 else(
 some (.inr (.inl (again,vend,last,c,c2,c3,c4,c5,c6,c7))))
def qgr(l:List Int)(cut:Int):Option (Bool):=
 (qpY l).bind fun r=>
 bif !r then(
 (qim).bind fun r2=>
 some r2)
 else(
 (qq4 l).bind fun r3=>
 (qe5 r3.1 r3.2).bind fun r4=>
 (qkK (r4.1.1,r4.1.2.1,r4.1.2.2.1,r4.1.2.2.2.1,r4.1.2.2.2.2.1,r4.1.2.2.2.2.2) r4.2.1 r4.2.2).bind fun r5=>
 (qde (r4.1.1,r4.1.2.1,r4.1.2.2.1,r4.1.2.2.2.1,r4.1.2.2.2.2.1,r4.1.2.2.2.2.2) r5.1).bind fun r6=>
 Option.bind (α:=Bool) (
 bif !decide (r6.2.2=0) then(
 some true)
 else(
 some (!decide (r6.2.1=0)))) fun s=>
 bif s then(
 some false)
 else(
 (ql9 (r4.1.1,r4.1.2.1,r4.1.2.2.1,r4.1.2.2.2.1,r4.1.2.2.2.2.1,r4.1.2.2.2.2.2) 1).bind fun r7=>
 bif !decide (r7.2=0) then(
 some false)
 else(
 (iter (fun x=>qbu r4 r6 x.1 x.2.1 x.2.2.1 x.2.2.2.1 x.2.2.2.2.1 x.2.2.2.2.2.1 x.2.2.2.2.2.2.1 x.2.2.2.2.2.2.2.1 x.2.2.2.2.2.2.2.2.1 x.2.2.2.2.2.2.2.2.2.1 x.2.2.2.2.2.2.2.2.2.2) ([],0,0,0,r7.1.1.1,r7.1.1.2.1,r7.1.1.2.2.1,r7.1.1.2.2.2,r7.1.2.1,r7.1.2.2.1,r7.1.2.2.2)).bind fun s4=>
 s4.elim (fun s5=>
 (qil (r4.1.1,r4.1.2.1,r4.1.2.2.1,r4.1.2.2.2.1,r4.1.2.2.2.2.1,r4.1.2.2.2.2.2) 1 r5.1).bind fun r10=>
 bif decide (s5.1=r5.1) then(
 bif decide (r10.2.2=s5.2.2.1) then(
 bif decide (r10.2.1=s5.2.1) then(
 (qm8 ((r10.1.1.1,r10.1.1.2.1,r10.1.1.2.2.1,r10.1.1.2.2.2),r10.1.2.1,r10.1.2.2.1,r10.1.2.2.2) ((s5.2.2.2.1,s5.2.2.2.2.1,s5.2.2.2.2.2.1,s5.2.2.2.2.2.2.1),s5.2.2.2.2.2.2.2.1,s5.2.2.2.2.2.2.2.2.1,s5.2.2.2.2.2.2.2.2.2)).bind fun r11=>
 bif r11 then(
 (qiE (r4.1.1,r4.1.2.1,r4.1.2.2.1,r4.1.2.2.2.1,r4.1.2.2.2.2.1,r4.1.2.2.2.2.2) (r10.1.1.1,r10.1.1.2.1,r10.1.1.2.2.1,r10.1.1.2.2.2)).bind fun r12=>
 bif decide (r12=0) then(
 (qim).bind fun r13=>
 some r13)
 else(
 some false))
 else(
 some false))
 else(
 some false))
 else(
 some false))
 else(
 some false))
 (fun s6=>
 some s6))))
def qhC:Fun:=
 ⟨3,2,1,
 ⟨[(0,dd (.sl I6)),(1,dd (.int .u8))],[],[]⟩,
 ⟨[(0,bb)],[],[]⟩,
 fun x=>qgr x.1 x.2⟩
theorem qnl:FO qhC:=fi [] [qoO,qnG,qr8,qiu,qnZ,qe4,qma,qjY,qjq,qjk,qpD,qjo] 128 [] ((nn (nn (nn (nn (nn (nn (mm (mm (.mk [.join [⟨.n,⟨[(6,pt 112 0),(7,kk),(8,kk),(47,bb)],[(112,32,kp 6)],[]⟩⟩]] none .nil .nil) .nil) (nn (nn (nn (nn (mm (nn (mm (.mk [] (some (⟨[(6,pt 112 0),(7,kk),(8,kk),(11,ss),(12,pt 208 0),(14,ii),(15,ii),(16,ii)],v12_,[]⟩,[⟨.x 0,⟨[(6,pt 112 0),(7,kk),(11,ss),(12,pt 208 0),(14,ii),(15,ii)],v12_,[]⟩⟩,⟨.r,⟨[(4,bb)],[],[]⟩⟩])) (nn (mm (mm (nn (nn (nn (nn (.mk [.join [⟨.n,⟨r80_,v12_,[]⟩⟩]] none (nn (nn (.mk [.join [⟨.n,⟨r80_,v12_,[]⟩⟩]] none .nil .nil))) .nil))))) .nil) .nil)) .nil) .nil)) .nil))))))))))))) func3 ⟨⟨qub,qsV,qwV,qoj,qtd,qhn,qqA,qqb,qnW,qnF,quH,qnO,trivial⟩,trivial⟩
end
end Go.Proofs.YtmdijohmddokhaaGreatDoor
