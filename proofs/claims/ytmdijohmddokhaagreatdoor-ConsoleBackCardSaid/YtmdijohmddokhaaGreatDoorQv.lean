/- Functions, evaluated. No condition. -/
import Derived.Test.YtmdijohmddokhaaGreatDoorProg
import Derived.Test.YtmdijohmddokhaaGreatDoorCd
namespace Go.Proofs.YtmdijohmddokhaaGreatDoor
open Go Go.Sq
open Go.Proofs.Tryz
noncomputable section
def qec(s:yB6):Option (Bool):=
 bif decide (s.1=0) then(
 bif decide (s.2.1=0) then(
 bif decide (s.2.2.1=0) then(
 bif decide (s.2.2.2.1=0) then(
 bif decide (s.2.2.2.2.1=0) then(
 bif decide (s.2.2.2.2.2.2=0) then(
 some (decide ((s.2.2.2.2.2.1.length:Int)=0)))
 else(
 some false))
 else(
 some false))
 else(
 some false))
 else(
 some false))
 else(
 some false))
 else(
 some false)
def qkZ:Fun:=
 ⟨177,1,1,
 ⟨[(0,dd tT2)],[],[]⟩,
 ⟨[(0,bb)],[],[]⟩,
 fun x=>qec x⟩
theorem qqJ:FO qkZ:=fi [] [] 40 [] .nil func177 ⟨trivial,trivial⟩
def qak(s:List UInt8)(w:Bool)(w2:List (List UInt8)):Option (Bool×List (List UInt8)):=
 gd (fits (w2.length+1) 16)<|
 some (w,w2++[s])
def qbB:Fun:=
 ⟨178,2,0,
 ⟨[(0,pt 0 0),(1,ss)],v46_,a40_⟩,
 ⟨[],v65_,a125_⟩,
 fun x=>qak x.1 x.2.1 x.2.2⟩
theorem qcx:FO qbB:=fi [] [] 14 [] .nil func178 ⟨trivial,trivial⟩
def qlN:Fun:=qAk 60
theorem qrV:FO qlN:=qDG ⟨_,func60,(by kernel_rfl),rfl⟩ (by kernel_rfl) strconv_Itoa (by unfold globs; exact .head _) (by kernel_rfl) (by kernel_rfl)
def qaN(n:Int)(w:Bool)(w2:List (List UInt8)):Option (Bool×List (List UInt8)):=
 Option.bind (α:=Bool×List (List UInt8)) (
 bif w then(
 some (true,w2))
 else(
 bif decide (n<(-9007199254740992)) then(
 some (true,w2))
 else(
 some (decide (9007199254740992<n),w2)))) fun s=>
 (itoaT n).bind fun r=>
 (qak r s.1 s.2).bind fun r2=>
 some (r2.1,r2.2)
def qbY:Fun:=
 ⟨179,2,0,
 ⟨r143_,v46_,a40_⟩,
 ⟨[],v65_,a125_⟩,
 fun x=>qaN x.1 x.2.1 x.2.2⟩
theorem qc6:FO qbY:=fi [] [qlN,qbB] 23 [] ((mm (.mk [.join [⟨.n,⟨[(0,pt 0 0),(1,kk)],v46_,a40_⟩⟩]] none .nil .nil) .nil)) func179 ⟨⟨qrV,qcx,trivial⟩,trivial⟩
def qaX(i:Int)(count:Int)(w:Bool)(w2:List (List UInt8)):Option (Bool×Bool×List (List UInt8)):=
 Option.bind (α:=Bool×List (List UInt8)) (
 bif decide (0<=i) then(
 some (decide (i<count),w2))
 else(
 some (false,w2))) fun s=>
 bif w then(
 some (s.1,true,s.2))
 else(
 some (s.1,(!s.1),s.2))
def qb8:Fun:=
 ⟨181,3,1,
 ⟨[(0,pt 0 0),(1,ii),(2,ii)],v46_,a40_⟩,
 ⟨[(0,bb)],v65_,a125_⟩,
 fun x=>qaX x.1 x.2.1 x.2.2.1 x.2.2.2⟩
theorem qdb:FO qb8:=fi [] [] 27 [] ((nn (mm (.mk [.join [⟨.n,⟨[(0,pt 0 0),(7,bb)],[(0,167,[.own 1,.keep])],a40_⟩⟩]] none .nil .nil) .nil))) func181 ⟨trivial,trivial⟩
def qbh(n:yB0)(s:yB6)(v:Int)(w3:Bool)(w4:List (List UInt8)):Option ((Int×Bool×List (List UInt8))⊕(Bool×List (List UInt8))):=
 bif decide (v<([s.2.2.2.1,s.2.2.2.2.1].length:Int)) then(
 gd (inB v [s.2.2.2.1,s.2.2.2.2.1].length)<|
 (qaX ([s.2.2.2.1,s.2.2.2.2.1].getD v.toNat 0) (n.2.2.1.length:Int) w3 w4).bind fun r3=>
 Option.bind (α:=Bool×List (List UInt8)) (
 bif r3.1 then(
 gd (inB ([s.2.2.2.1,s.2.2.2.2.1].getD v.toNat 0) n.2.2.1.length)<|
 (qak ((n.2.2.1.getD ([s.2.2.2.1,s.2.2.2.2.1].getD v.toNat 0).toNat ([],0,0)).1) r3.2.1 r3.2.2).bind fun r4=>
 some (r4.1,r4.2))
 else(
 some (r3.2.1,r3.2.2))) fun s3=>
 some (.inl (wi64 (v+1),s3.1,s3.2)))
 else(
 some (.inr (w3,w4)))
def qbi(n:yB0)(s:yB6)(v2:Int)(w5:Bool)(w6:List (List UInt8)):Option ((Int×Bool×List (List UInt8))⊕((Bool×List (List UInt8))⊕(Bool×List (List UInt8)))):=
 bif decide (v2<(s.2.2.2.2.2.1.length:Int)) then(
 gd (inB v2 s.2.2.2.2.2.1.length)<|
 (qaX ((s.2.2.2.2.2.1.getD v2.toNat (0,false)).1) (n.2.1.length:Int) w5 w6).bind fun r5=>
 bif !r5.1 then(
 some (.inr (.inr (r5.2.1,r5.2.2))))
 else(
 gd (inB ((s.2.2.2.2.2.1.getD v2.toNat (0,false)).1) n.2.1.length)<|
 Option.bind (α:=List UInt8×List (List UInt8)) (
 bif (s.2.2.2.2.2.1.getD v2.toNat (0,false)).2 then(
 gd (Nat.ble ([45].length+((n.2.1.getD ((s.2.2.2.2.2.1.getD v2.toNat (0,false)).1).toNat ([],0,0,0,0,0,[])).1).length) 9223372036854775807)<|
 some ([45]++((n.2.1.getD ((s.2.2.2.2.2.1.getD v2.toNat (0,false)).1).toNat ([],(0,(0,(0,(0,(0,[]))))))).1),r5.2.2))
 else(
 some ((n.2.1.getD ((s.2.2.2.2.2.1.getD v2.toNat (0,false)).1).toNat ([],(0,(0,(0,(0,(0,[]))))))).1,r5.2.2))) fun s5=>
 (qak s5.1 r5.2.1 s5.2).bind fun r6=>
 some (.inl (wi64 (v2+1),r6.1,r6.2))))
 else(
 some (.inr (.inl (w5,w6))))
def qdc(n:yB0)(s:yB6)(w:Bool)(w2:List (List UInt8)):Option (Bool×List (List UInt8)):=
 (qak [102,108,111,119] w w2).bind fun r=>
 (qaN s.2.2.1 r.1 r.2).bind fun r2=>
 Option.bind (α:=Bool×List (List UInt8)) (
 bif r2.1 then(
 some (true,r2.2))
 else(
 bif !decide (s.2.1=0) then(
 some (true,r2.2))
 else(
 some (decide (32<(s.2.2.2.2.2.1.length:Int)),r2.2)))) fun s2=>
 (iter (fun x=>qbh n s x.1 x.2.1 x.2.2) (0,s2.1,s2.2)).bind fun s4=>
 (iter (fun x2=>qbi n s x2.1 x2.2.1 x2.2.2) (0,s4.1,s4.2)).bind fun s6=>
 s6.elim (fun s7=>
 some (s7.1,s7.2))
 (fun s8=>
 some (s8.1,s8.2))
def qf6:Fun:=
 ⟨235,3,0,
 ⟨[(0,pt 0 0),(1,dd tT0),(2,dd tT2)],v46_,a40_⟩,
 ⟨[],v65_,a125_⟩,
 fun x=>qdc x.1 x.2.1 x.2.2.1 x.2.2.2⟩
theorem qlp:FO qf6:=fi [] [qbB,qbY,qb8] 94 [] ((nn (nn (nn (mm (.mk [.join [⟨.n,⟨r89_,[(0,167,[.own 272,.data (.bool)]),(80,32,kp 6),(96,57,kp 7)],[(272,.arr 9 (.str))]⟩⟩]] none .nil .nil) (mm (nn (mm (.mk [] (some (⟨[(0,pt 0 0),(4,pt 80 0),(5,pt 96 0),(42,kk),(43,kk),(44,ii)],v58_,a54_⟩,[⟨.x 0,⟨r89_,v58_,a54_⟩⟩])) (nn (nn (mm (mm (nn (nn (.mk [.join [⟨.n,⟨[(0,pt 0 0),(4,pt 80 0),(5,pt 96 0),(42,kk),(43,kk),(44,kk)],v58_,a54_⟩⟩]] none .nil .nil))) .nil) .nil))) .nil) .nil)) (nn (mm (.mk [] (some (⟨[(0,pt 0 0),(4,pt 80 0),(65,kk),(66,kk),(67,ii)],[(0,167,[.own 25,.data (.bool)]),(80,32,kp 6)],a54_⟩,[⟨.x 2,⟨[],v107_,a54_⟩⟩,⟨.r,⟨[],v107_,a54_⟩⟩])) (nn (nn (mm (mm (nn (nn (nn (mm (nn (.mk [.join [⟨.n,⟨[(0,pt 0 0),(4,pt 80 0),(10,ss),(65,kk),(66,kk),(67,kk)],[(0,167,[.own 1248,.keep]),(80,32,kp 6)],[(1248,.arr 9 (.str))]⟩⟩]] none .nil .nil)) .nil)))) .nil) .nil))) .nil) .nil)))))))) func235 ⟨⟨qcx,qc6,qdb,trivial⟩,trivial⟩
def qdd(n:yB0)(s:yB6)(w:Bool)(w2:List (List UInt8)):Option (Bool×List (List UInt8)):=
 Option.bind (α:=Bool×List (List UInt8)) (
 bif decide (s.2.2.2.1=0) then(
 bif decide (s.2.2.2.2.1=0) then(
 some (decide ((s.2.2.2.2.2.1.length:Int)=0),w2))
 else(
 some (false,w2)))
 else(
 some (false,w2))) fun s2=>
 Option.bind (α:=Bool×List (List UInt8)) (
 bif w then(
 some (true,s2.2))
 else(
 bif !decide (s.2.2.2.2.2.2=0) then(
 some (true,s2.2))
 else(
 bif !decide (s.1=5) then(
 some ((!s2.1),s2.2))
 else(
 some (false,s2.2))))) fun s3=>
 Option.bind (α:=Bool×List (List UInt8)) (
 bif decide (s.1=1) then(
 some (decide (s.1=1),s3.2))
 else(
 some (decide (s.1=2),s3.2))) fun s4=>
 bif s4.1 then(
 gd (inB s.1 ([[],[111,112,101,110],[99,108,111,115,101]]:List (List UInt8)).length)<|
 (qak (([[],[111,112,101,110],[99,108,111,115,101]]:List (List UInt8)).getD s.1.toNat []) s3.1 s4.2).bind fun r=>
 (qaX s.2.1 (wi64 ((n.2.1.length:Int)+(n.2.2.1.length:Int))) r.1 r.2).bind fun r2=>
 (qaN s.2.1 r2.2.1 r2.2.2).bind fun r3=>
 bif r3.1 then(
 some (true,r3.2))
 else(
 some ((!decide (s.2.2.1=0)),r3.2)))
 else(
 Option.bind (α:=Bool×List (List UInt8)) (
 bif decide (s.1=3) then(
 some (decide (s.1=3),s4.2))
 else(
 some (decide (s.1=4),s4.2))) fun s5=>
 bif s5.1 then(
 gd (inB s.1 ([[],[],[],[115,116,97,114,116],[115,116,111,112]]:List (List UInt8)).length)<|
 (qak (([[],[],[],[115,116,97,114,116],[115,116,111,112]]:List (List UInt8)).getD s.1.toNat []) s3.1 s5.2).bind fun r4=>
 (qaX s.2.1 (n.2.2.2.1.length:Int) r4.1 r4.2).bind fun r5=>
 Option.bind (α:=Bool×List (List UInt8)) (
 bif r5.1 then(
 gd (inB s.2.1 n.2.2.2.1.length)<|
 (qak ((n.2.2.2.1.getD s.2.1.toNat ([],0,0,0,0)).1) r5.2.1 r5.2.2).bind fun r6=>
 some (r6.1,r6.2))
 else(
 some (r5.2.1,r5.2.2))) fun s6=>
 bif s6.1 then(
 some (true,s6.2))
 else(
 some ((!decide (s.2.2.1=0)),s6.2)))
 else(
 bif decide (s.1=5) then(
 (qdc (n.1,n.2.1,n.2.2.1,n.2.2.2.1,n.2.2.2.2.1,n.2.2.2.2.2) (s.1,s.2.1,s.2.2.1,s.2.2.2.1,s.2.2.2.2.1,s.2.2.2.2.2.1,s.2.2.2.2.2.2) s3.1 s5.2).bind fun r7=>
 some (r7.1,r7.2))
 else(
 bif decide (s.1=6) then(
 (qak [119,97,105,116] s3.1 s5.2).bind fun r8=>
 (qaN s.2.2.1 r8.1 r8.2).bind fun r9=>
 bif r9.1 then(
 some (true,r9.2))
 else(
 some ((!decide (s.2.1=0)),r9.2)))
 else(
 some (true,s5.2)))))
def qf7:Fun:=
 ⟨180,3,0,
 ⟨[(0,pt 0 0),(1,dd tT0),(2,dd tT2)],v46_,a40_⟩,
 ⟨[],v65_,a125_⟩,
 fun x=>qdd x.1 x.2.1 x.2.2.1 x.2.2.2⟩
theorem qlq:FO qf7:=fi [] [qbB,qb8,qbY,qf6] 151 [] ((nn (nn (mm (.mk [.join [⟨.n,⟨[(0,pt 0 0),(4,pt 80 0),(5,pt 96 0),(6,pt 112 0),(7,bb)],[(0,167,[.own 1,.keep]),(80,32,kp 6),(96,57,kp 7),(112,55,kp 4)],a40_⟩⟩]] none .nil .nil) (mm (.mk [.join [⟨.n,⟨r89_,[(0,167,[.own 1,.data (.bool)]),(80,32,kp 6),(96,57,kp 7)],a40_⟩⟩]] none .nil .nil) (nn (mm (mm (nn (.mk [.join [⟨.n,⟨[(0,pt 0 0),(4,pt 80 0),(5,pt 96 0),(46,kk),(50,bb)],v115_,a40_⟩⟩]] none .nil .nil)) (nn (mm (nn (.mk [.join [⟨.n,⟨[(0,pt 0 0),(4,pt 80 0),(5,pt 96 0),(46,kk),(87,bb)],v115_,a40_⟩⟩]] none .nil .nil)) (mm (nn (mm (nn (.mk [.join [⟨.n,⟨r136_,[(0,167,[.own 25,.data (.bool)]),(96,57,kp 7)],a54_⟩⟩]] none .nil .nil)) .nil)) .nil)))) .nil))))))) func180 ⟨⟨qcx,qdb,qc6,qlp,trivial⟩,trivial⟩
def qa0(r:yB1)(v:Int)(w3:Bool)(w4:List (List UInt8)):Option ((Int×Bool×List (List UInt8))⊕(Bool×List (List UInt8))):=
 bif decide (v<(r.2.1.length:Int)) then(
 gd (inB v r.2.1.length)<|
 (qaN (r.2.1.getD v.toNat 0) w3 w4).bind fun r5=>
 some (.inl (wi64 (v+1),r5.1,r5.2)))
 else(
 some (.inr (w3,w4)))
def qcL(n:yB0)(r:yB1)(w:Bool)(w2:List (List UInt8)):Option (Bool×List (List UInt8)):=
 Option.bind (α:=Bool×List (List UInt8)) (
 bif w then(
 some (true,w2))
 else(
 bif !decide (r.1=1) then(
 bif decide (0<(r.2.1.length:Int)) then(
 some (true,w2))
 else(
 bif !decide (r.1=2) then(
 (qec (r.2.2.1.1,r.2.2.1.2.1,r.2.2.1.2.2.1,r.2.2.1.2.2.2.1,r.2.2.1.2.2.2.2.1,r.2.2.1.2.2.2.2.2.1,r.2.2.1.2.2.2.2.2.2)).bind fun r2=>
 bif !r2 then(
 some (true,w2))
 else(
 bif !decide (r.1=3) then(
 some ((!(decide (r.2.2.2.1=[])&&(decide (r.2.2.2.2.1=0)&&decide (r.2.2.2.2.2=0)))),w2))
 else(
 some (false,w2))))
 else(
 bif !decide (r.1=3) then(
 some ((!(decide (r.2.2.2.1=[])&&(decide (r.2.2.2.2.1=0)&&decide (r.2.2.2.2.2=0)))),w2))
 else(
 some (false,w2)))))
 else(
 bif !decide (r.1=2) then(
 (qec (r.2.2.1.1,r.2.2.1.2.1,r.2.2.1.2.2.1,r.2.2.1.2.2.2.1,r.2.2.1.2.2.2.2.1,r.2.2.1.2.2.2.2.2.1,r.2.2.1.2.2.2.2.2.2)).bind fun r3=>
 bif !r3 then(
 some (true,w2))
 else(
 bif !decide (r.1=3) then(
 some ((!(decide (r.2.2.2.1=[])&&(decide (r.2.2.2.2.1=0)&&decide (r.2.2.2.2.2=0)))),w2))
 else(
 some (false,w2))))
 else(
 bif !decide (r.1=3) then(
 some ((!(decide (r.2.2.2.1=[])&&(decide (r.2.2.2.2.1=0)&&decide (r.2.2.2.2.2=0)))),w2))
 else(
 some (false,w2)))))) fun s=>
 bif decide (r.1=1) then(
 (qak [116,101,108,101,103,114,97,109] s.1 s.2).bind fun r4=>
 Option.bind (α:=Bool×List (List UInt8)) (
 bif r4.1 then(
 some (true,r4.2))
 else(
 bif decide ((r.2.1.length:Int)<5) then(
 some (true,r4.2))
 else(
 some (decide (21<(r.2.1.length:Int)),r4.2)))) fun s2=>
 (iter (fun x=>qa0 r x.1 x.2.1 x.2.2) (0,s2.1,s2.2)).bind fun s3=>
 some (s3.1,s3.2))
 else(
 bif decide (r.1=2) then(
 (qdd (n.1,n.2.1,n.2.2.1,n.2.2.2.1,n.2.2.2.2.1,n.2.2.2.2.2) (r.2.2.1.1,r.2.2.1.2.1,r.2.2.1.2.2.1,r.2.2.1.2.2.2.1,r.2.2.1.2.2.2.2.1,r.2.2.1.2.2.2.2.2.1,r.2.2.1.2.2.2.2.2.2) s.1 s.2).bind fun r6=>
 some (r6.1,r6.2))
 else(
 bif decide (r.1=3) then(
 (qak [101,110,116,114,121] s.1 s.2).bind fun r7=>
 (qhK).bind fun r8=>
 (qaX (wi64 (r.2.2.2.2.1-1)) (wi64 ((r8.length:Int)-1)) r7.1 r7.2).bind fun r9=>
 Option.bind (α:=Bool×List (List UInt8)) (
 bif r9.1 then(
 (qhK).bind fun r10=>
 gd (inB r.2.2.2.2.1 r10.length)<|
 (qak (r10.getD r.2.2.2.2.1.toNat []) r9.2.1 r9.2.2).bind fun r11=>
 some (r11.1,r11.2))
 else(
 some (r9.2.1,r9.2.2))) fun s4=>
 Option.bind (α:=Bool×List (List UInt8)) (
 bif s4.1 then(
 some (true,s4.2))
 else(
 (qcz r.2.2.2.1).bind fun r12=>
 some ((!r12),s4.2))) fun s5=>
 (qak r.2.2.2.1 s5.1 s5.2).bind fun r13=>
 (qaN r.2.2.2.2.2 r13.1 r13.2).bind fun r14=>
 some (r14.1,r14.2))
 else(
 some (true,s.2))))
def qfm:Fun:=
 ⟨91,3,0,
 ⟨[(0,pt 0 0),(1,dd tT0),(2,dd (.pair I6 (.pair (.sl I6) (.pair tT2 tT7))))],v46_,a40_⟩,
 ⟨[],v65_,a125_⟩,
 fun x=>qcL x.1 x.2.1 x.2.2.1 x.2.2.2⟩
theorem qjC:FO qfm:=fi [] [qkZ,qbB,qbY,qf7,qhm,qb8,qfu] 139 [] ((nn (mm (.mk [.join [⟨.n,⟨r89_,[(0,167,[.own 1,.data (.bool)]),(80,32,kp 6),(96,61,kp 12)],a40_⟩⟩]] none .nil .nil) (nn (mm (nn (mm (nn (mm (.mk [.join [⟨.n,⟨r136_,[(0,167,[.own 912,.data (.bool)]),(96,61,kp 12)],[(912,.arr 9 (.str))]⟩⟩]] none .nil .nil) (nn (mm (.mk [] (some (⟨[(0,pt 0 0),(77,kk),(78,kk),(79,ii)],v107_,a54_⟩,[⟨.x 1,⟨[],v107_,a54_⟩⟩])) .nil .nil) .nil)))) (nn (nn (nn (mm (nn (mm (nn (.mk [.join [⟨.n,⟨r136_,v132_,a54_⟩⟩]] none .nil .nil)) (mm (.mk [.join [⟨.n,⟨r136_,v132_,a54_⟩⟩]] none .nil .nil) .nil))) .nil)))))) .nil))))) func91 ⟨⟨qqJ,qcx,qc6,qlq,qkX,qdb,qhH,trivial⟩,trivial⟩
def qlO:Fun:=qAl 59
theorem qrW:FO qlO:=qDH ⟨_,func59,(by kernel_rfl),rfl⟩ strings_Join_none strings_Join
def qev(n:yB0)(r:yB1):Option (List UInt8×Bool):=
 Option.bind (α:=Bool×List (List UInt8)) (
 some (false,[])) fun s=>
 (qcL (n.1,n.2.1,n.2.2.1,n.2.2.2.1,n.2.2.2.2.1,n.2.2.2.2.2) (r.1,r.2.1,(r.2.2.1.1,r.2.2.1.2.1,r.2.2.1.2.2.1,r.2.2.1.2.2.2.1,r.2.2.1.2.2.2.2.1,r.2.2.1.2.2.2.2.2.1,r.2.2.1.2.2.2.2.2.2),r.2.2.2.1,r.2.2.2.2.1,r.2.2.2.2.2) s.1 s.2).bind fun r2=>
 (joinT r2.2 [32]).bind fun r3=>
 some (r3,!r2.1)
def qge:Fun:=
 ⟨36,2,2,
 ⟨r68_,[],[]⟩,
 ⟨[(0,ss),(1,bb)],[],[]⟩,
 fun x=>qev x.1 x.2⟩
theorem qjD:FO qge:=fi [] [qfm,qlO] 23 [] ((nn (mm (.mk [.join [⟨.n,⟨[(2,pt 48 0),(3,pt 64 0),(6,pt 123 0)],[(48,32,kp 6),(64,61,kp 12),(123,167,[.own 1993,.data (.bool)])],[(1993,.arr 9 (.str))]⟩⟩]] none .nil .nil) .nil))) func36 ⟨⟨qjC,qrW,trivial⟩,trivial⟩
def qk0(r:List (List UInt8)):Option (Unit⊕Unit):=
 bif decide (((r.drop 1).length:Int)<3) then(
 none)
 else(
 some (.inr ()))
def qhL(n:yB0)(line:List UInt8):Option (yB1×Bool):=
 (qhJ line [32]).bind fun r=>
 (qkY (n.1,n.2.1,n.2.2.1,n.2.2.2.1,n.2.2.2.2.1,n.2.2.2.2.2)).bind fun r2=>
 gd (inB 0 r.length)<|
 Option.bind (α:=Bool) (
 bif !(fmHas qje (r.getD 0 [])) then(
 some true)
 else(
 some (decide ((r.length:Int)<2)))) fun s=>
 bif s then(
 some ((0,([],((0,(0,(0,(0,(0,([],0)))))),([],(0,0))))),false))
 else(
 gd (cutG (some (.i64,1)) none r.length)<|
 Option.bind (α:=Bool) (
 gd (inB 0 r.length)<|
 bif decide (r.getD 0 []=[101,110,116,114,121]) then(
 some true)
 else(
 gd (inB 0 r.length)<|
 some (decide (r.getD 0 []=[102,108,111,119])))) fun s2=>
 Option.bind (α:=Unit) (
 bif s2 then(
 (iter (fun _=>qk0 r) ()).bind fun s3=>
 some ())
 else(
 some ())) fun s4=>
 ((fmG (ps:=[.sl (.str)]) (r:=(.pair I6 (.pair (.sl I6) (.pair tT2 tT7)))) qje r2 (r.getD 0 [])) (r.drop 1,())).bind fun r3=>
 (qev (n.1,n.2.1,n.2.2.1,n.2.2.2.1,n.2.2.2.2.1,n.2.2.2.2.2) (r3.1,r3.2.1,(r3.2.2.1.1,r3.2.2.1.2.1,r3.2.2.1.2.2.1,r3.2.2.1.2.2.2.1,r3.2.2.1.2.2.2.2.1,r3.2.2.1.2.2.2.2.2.1,r3.2.2.1.2.2.2.2.2.2),r3.2.2.2.1,r3.2.2.2.2.1,r3.2.2.2.2.2)).bind fun r4=>
 bif r4.2 then(
 some ((r3.1,(r3.2.1,((r3.2.2.1.1,(r3.2.2.1.2.1,(r3.2.2.1.2.2.1,(r3.2.2.1.2.2.2.1,(r3.2.2.1.2.2.2.2.1,(r3.2.2.1.2.2.2.2.2.1,r3.2.2.1.2.2.2.2.2.2)))))),(r3.2.2.2.1,(r3.2.2.2.2.1,r3.2.2.2.2.2))))),decide (r4.1=line)))
 else(
 some ((r3.1,(r3.2.1,((r3.2.2.1.1,(r3.2.2.1.2.1,(r3.2.2.1.2.2.1,(r3.2.2.1.2.2.2.1,(r3.2.2.1.2.2.2.2.1,(r3.2.2.1.2.2.2.2.2.1,r3.2.2.1.2.2.2.2.2.2)))))),(r3.2.2.2.1,(r3.2.2.2.2.1,r3.2.2.2.2.2))))),false)))
def qk1:Fun:=
 ⟨34,2,2,
 ⟨r131_,[],[]⟩,
 ⟨[(0,dd (.pair I6 (.pair (.sl I6) (.pair tT2 tT7)))),(1,bb)],[],[]⟩,
 fun x=>qhL x.1 x.2⟩
theorem qqK:FO qk1:=fi [] [qkW,qia,qge] 65 [] ((nn (nn (nn (mm (mm (.mk [.join [⟨.n,⟨[(1,kk),(2,pt 48 0),(4,pt 80 0),(6,kk),(7,kk),(29,bb)],v74_,[]⟩⟩]] none .nil .nil) .nil) (nn (mm (mm (.mk [.join [⟨.n,⟨[(1,kk),(2,pt 48 0),(4,pt 80 0),(7,kk),(9,kk),(42,bb)],v74_,[]⟩⟩]] none .nil .nil) (.mk [.join [⟨.n,⟨r87_,v74_,[]⟩⟩]] none (mm (.mk [] (some (⟨r87_,v74_,[]⟩,[⟨.x 0,⟨r87_,v74_,[]⟩⟩])) .nil .nil) .nil) .nil)) .nil))))))) func34 ⟨⟨qqI,qoe,qjD,trivial⟩,trivial⟩
def qe3(n:yB0)(text2:List UInt8)(out:List yB1):Option ((List UInt8×List yB1)⊕((List yB1)⊕((List yB1)×Int×Int))):=
 bif !decide (text2=[]) then(
 (qkf text2 [10]).bind fun r4=>
 (qhL (n.1,n.2.1,n.2.2.1,n.2.2.2.1,n.2.2.2.2.1,n.2.2.2.2.2) r4.1).bind fun r5=>
 Option.bind (α:=Bool×List yB1) (
 bif !r5.2 then(
 some (true,out))
 else(
 some ((!r4.2.2),out))) fun s4=>
 bif s4.1 then(
 some (.inr (.inr ([],wi64 ((s4.2.length:Int)+1),3))))
 else(
 gd (fits (s4.2.length+1) 136)<|
 some (.inl (r4.2.1,s4.2++[(r5.1.1,(r5.1.2.1,((r5.1.2.2.1.1,(r5.1.2.2.1.2.1,(r5.1.2.2.1.2.2.1,(r5.1.2.2.1.2.2.2.1,(r5.1.2.2.1.2.2.2.2.1,(r5.1.2.2.1.2.2.2.2.2.1,r5.1.2.2.1.2.2.2.2.2.2)))))),(r5.1.2.2.2.1,(r5.1.2.2.2.2.1,r5.1.2.2.2.2.2)))))]))))
 else(
 some (.inr (.inl out)))
def qde(n:yB0)(text:List UInt8):Option ((List yB1)×Int×Int):=
 (qbE (n.1,n.2.1,n.2.2.1,n.2.2.2.1,n.2.2.2.2.1,n.2.2.2.2.2)).bind fun r=>
 bif !decide (r=0) then(
 some ([],0,r))
 else(
 (qfC text [10]).bind fun r2=>
 Option.bind (α:=Bool) (
 bif !decide (text=[]) then(
 (qea text [10]).bind fun r3=>
 some (!r3))
 else(
 some false)) fun s=>
 Option.bind (α:=Int) (
 bif s then(
 some (wi64 (r2+1)))
 else(
 some r2)) fun s2=>
 Option.bind (α:=Bool) (
 bif decide (16384<(text.length:Int)) then(
 some true)
 else(
 some (decide (400<s2)))) fun s3=>
 bif s3 then(
 some ([],0,4))
 else(
 (iter (fun x=>qe3 n x.1 x.2) (text,[])).bind fun s5=>
 s5.elim (fun s6=>
 some (s6,0,0))
 (fun s7=>
 some (s7.1,s7.2.1,s7.2.2))))
def qe4:Fun:=
 ⟨12,2,3,
 ⟨r131_,[],[]⟩,
 ⟨[(0,dd (.sl (.pair I6 (.pair (.sl I6) (.pair tT2 tT7))))),(1,ii),(2,ii)],[],[]⟩,
 fun x=>qde x.1 x.2⟩
theorem qhn:FO qe4:=fi [] [qbv,qhk,qhw,qns,qk1] 67 [] ((nn (nn (nn (mm (mm (.mk [.join [⟨.n,⟨[(1,kk),(2,pt 48 0),(8,kk),(28,bb)],v116_,[]⟩⟩]] none .nil .nil) (.mk [.join [⟨.n,⟨[(1,kk),(2,pt 48 0),(8,ii)],v116_,[]⟩⟩]] none .nil .nil)) (mm (mm (.mk [.join [⟨.n,⟨[(1,kk),(2,pt 48 0),(37,bb)],v116_,[]⟩⟩]] none .nil .nil) .nil) (nn (mm (mm (.mk [] (some (⟨[(1,ss),(2,pt 48 0),(9,ow 171)],v116_,a77_⟩,[⟨.x 0,⟨[(9,ow 171)],[],a77_⟩⟩,⟨.r,⟨[(4,dd (.sl (.pair I6 (.pair (.sl I6) (.pair tT2 tT7))))),(5,ii),(6,ii)],[],[]⟩⟩])) (nn (mm (nn (nn (mm (mm (.mk [.join [⟨.n,⟨[(2,pt 48 0),(9,ow 171),(11,kk),(13,pt 224 0),(57,bb)],[(48,32,kp 6),(224,61,kp 12)],a77_⟩⟩]] none .nil .nil) .nil) .nil))) .nil)) .nil) .nil) .nil)))))))) func12 ⟨⟨qb1,qkV,qne,qsM,qqK,trivial⟩,trivial⟩
def qdS(v:Int×Int×Bool×Bool):Option (Bool):=
 bif decide (1<=v.1) then(
 bif decide (v.1<=60) then(
 bif decide (0<=v.2.1) then(
 some (decide (v.2.1<=v.1)))
 else(
 some false))
 else(
 some false))
 else(
 some false)
def qdz:Fun:=
 ⟨124,1,1,
 ⟨[(0,dd tT1)],[],[]⟩,
 ⟨[(0,bb)],[],[]⟩,
 fun x=>qdS x⟩
theorem qew:FO qdz:=fi [] [] 23 [] .nil func124 ⟨trivial,trivial⟩
def qg4(n:yB0):Option (Int):=
 some (wi64 ((n.2.1.length:Int)+(n.2.2.1.length:Int)))
def qib:Fun:=
 ⟨121,1,1,
 ⟨[(0,dd tT0)],[],[]⟩,
 ⟨[(0,ii)],[],[]⟩,
 fun x=>qg4 x⟩
theorem qlP:FO qib:=fi [] [] 10 [] .nil func121 ⟨trivial,trivial⟩
def qrX(x:Int)(y:Int):Option (Int×Int):=
 some (wu32 (Int.fdiv (wu64 ((wu64 x)*(wu64 y))) (2^shAmt .u64 32)),wu32 (wu64 ((wu64 x)*(wu64 y))))
def qoU:Fun:=
 ⟨271,2,2,
 ⟨[(0,dd (.int .u32)),(1,dd (.int .u32))],[],[]⟩,
 ⟨[(0,dd (.int .u32)),(1,dd (.int .u32))],[],[]⟩,
 fun x=>qrX x.1 x.2⟩
theorem qxO:FO qoU:=fi [] [] 17 [] .nil func271 ⟨trivial,trivial⟩
def qlQ(x:Int)(y:Int):Option (Int×Int):=
 some (wu64 ((wu64 ((wu64 ((Int.fdiv x (2^shAmt .u64 32))*(Int.fdiv y (2^shAmt .u64 32))))+(Int.fdiv (wu64 ((wu64 ((Int.fdiv x (2^shAmt .u64 32))*(qqs .u64 y 4294967295)))+(Int.fdiv (wu64 ((qqs .u64 x 4294967295)*(qqs .u64 y 4294967295))) (2^shAmt .u64 32)))) (2^shAmt .u64 32))))+(Int.fdiv (wu64 ((qqs .u64 (wu64 ((wu64 ((Int.fdiv x (2^shAmt .u64 32))*(qqs .u64 y 4294967295)))+(Int.fdiv (wu64 ((qqs .u64 x 4294967295)*(qqs .u64 y 4294967295))) (2^shAmt .u64 32)))) 4294967295)+(wu64 ((qqs .u64 x 4294967295)*(Int.fdiv y (2^shAmt .u64 32)))))) (2^shAmt .u64 32))),wu64 (x*y))
def qiS:Fun:=
 ⟨272,2,2,
 ⟨r86_,[],[]⟩,
 ⟨r86_,[],[]⟩,
 fun x=>qlQ x.1 x.2⟩
theorem qoV:FO qiS:=fi [] [] 51 [] .nil func272 ⟨trivial,trivial⟩
def qki(x:Int)(y:Int):Option (Int×Int):=
 (qlQ x y).bind fun r=>
 some (r.1,r.2)
def qk2:Fun:=
 ⟨237,2,2,
 ⟨r86_,[],[]⟩,
 ⟨r86_,[],[]⟩,
 fun x=>qki x.1 x.2⟩
theorem qqL:FO qk2:=fi [] [qiS] 30 [] .nil func237 ⟨⟨qoV,trivial⟩,trivial⟩
def qad(n:Int)(newslice:yB4):Option ((Int×List (Int×Int×Bool×Bool))⊕yB4):=
 bif decide (n<(newslice.length:Int)) then(
 gd (decide (0<newslice.length)&&inR n (newslice.length:Int) newslice.length)<|
 gd (decide (0<newslice.length)&&inR 0 n newslice.length)<|
 gd ((decide (newslice.length=newslice.length)&&(decide (newslice.length=newslice.length)&&decide (n.toNat<=newslice.length)))&&decide (0<newslice.length))<|
 some (.inl (wi64 (n+(Int.ofNat (min (newslice.take n.toNat).length (newslice.length-n.toNat)))),cpyD newslice n.toNat (newslice.take n.toNat))))
 else(
 some (.inr newslice))
def qaZ(x:yB4)(count:Int):Option yB4:=
 Option.bind (α:=Unit) (
 bif decide (count<0) then(
 none)
 else(
 some ())) fun s=>
 (qki (wu64 (x.length:Int)) (wu64 count)).bind fun r=>
 Option.bind (α:=Bool) (
 bif decide (0<r.1) then(
 some true)
 else(
 some (decide (9223372036854775807<r.2)))) fun s2=>
 Option.bind (α:=Unit) (
 bif s2 then(
 none)
 else(
 some ())) fun s3=>
 gd (makeG 24 (wi64 r.2))<|
 gd ((true&&true)&&decide (0<(List.replicate (wi64 r.2).toNat ((0,0,false,false):Int×Int×Bool×Bool)).length))<|
 (iter (fun x2=>qad x2.1 x2.2) (Int.ofNat (min x.length ((List.replicate (wi64 r.2).toNat ((0,0,false,false):Int×Int×Bool×Bool)).length-0)),cpyD (List.replicate (wi64 r.2).toNat ((0,0,false,false):Int×Int×Bool×Bool)) 0 x)).bind fun s4=>
 some s4
def qcf:Fun:=
 ⟨188,2,1,
 ⟨[(0,dd (.sl tT1)),(1,ii)],[],[]⟩,
 ⟨[(0,ow 0)],[],[(0,.arr 126 tT1)]⟩,
 fun x=>qaZ x.1 x.2⟩
theorem qex:FO qcf:=fi [5000044] [qk2] 48 [] ((nn (mm (nn (.mk [.join [⟨.n,⟨[(0,kk),(1,kk)],[],[]⟩⟩]] none .nil .nil)) (nn (mm (mm (.mk [.join [⟨.n,⟨[(0,kk),(6,kk),(26,bb)],[],[]⟩⟩]] none .nil .nil) (.mk [.join [⟨.n,⟨[(0,kk),(6,kk)],[],[]⟩⟩]] none .nil .nil)) (nn (nn (mm (mm (.mk [] (some (⟨[(7,ow 496),(8,ii)],[],[(496,.arr 126 tT1)]⟩,[⟨.x 0,⟨[(7,ow 496)],[],[(496,.arr 126 tT1)]⟩⟩])) .nil .nil) .nil) .nil)))))))) func188 ⟨⟨qqL,trivial⟩,trivial⟩
def qoW(n:yB0)(travel:Int):Option (yB5×Int):=
 (qbE (n.1,n.2.1,n.2.2.1,n.2.2.2.1,n.2.2.2.2.1,n.2.2.2.2.2)).bind fun r=>
 bif !decide (r=0) then(
 some (([],([],([],[]))),r))
 else(
 (qdS (travel,0,false,false)).bind fun r2=>
 bif !r2 then(
 some (([],([],([],[]))),20))
 else(
 gd (makeG 8 (n.2.1.length:Int))<|
 gd (makeG 8 (n.2.2.1.length:Int))<|
 gd (makeG 1 (n.2.2.2.1.length:Int))<|
 (qg4 (n.1,n.2.1,n.2.2.1,n.2.2.2.1,n.2.2.2.2.1,n.2.2.2.2.2)).bind fun r3=>
 (qaZ [(travel,0,false,false)] r3).bind fun r4=>
 some ((r4,(List.replicate (n.2.1.length:Int).toNat (0:Int),(List.replicate (n.2.2.1.length:Int).toNat (0:Int),List.replicate (n.2.2.2.1.length:Int).toNat (false:Bool)))),0)))
def qqt:Fun:=
 ⟨104,2,2,
 ⟨r144_,[],[]⟩,
 ⟨r48_,[],[]⟩,
 fun x=>qoW x.1 x.2⟩
theorem qvJ:FO qqt:=fi [] [qbv,qdz,qib,qcf] 41 [] .nil func104 ⟨⟨qb1,qew,qlP,qex,trivial⟩,trivial⟩
def qjE(n:yB0)(travel:Int):Option (yB11×Int):=
 (qoW (n.1,n.2.1,n.2.2.1,n.2.2.2.1,n.2.2.2.2.1,n.2.2.2.2.2) travel).bind fun r=>
 bif !decide (r.2=0) then(
 some ((([],([],([],[]))),([],([],0))),r.2))
 else(
 some (((r.1.1,(r.1.2.1,(r.1.2.2.1,r.1.2.2.2))),([],([],0))),0))
def qoX:Fun:=
 ⟨43,2,2,
 ⟨r144_,[],[]⟩,
 ⟨r26_,[],[]⟩,
 fun x=>qjE x.1 x.2⟩
theorem qud:FO qoX:=fi [] [qqt] 20 [] .nil func43 ⟨⟨qvJ,trivial⟩,trivial⟩
def qfr(s:yB4):Option yB4:=
 bif Nat.beq s.length 0 then(bothO (
 some []) (
 gd (fits (0+s.length) 24)<|
 some ([]++s)))
 else(
 gd (fits (0+s.length) 24)<|
 some ([]++s))
def qao:Fun:=
 ⟨238,1,1,
 ⟨[(0,dd (.sl tT1))],[],[]⟩,
 ⟨[(0,ow 0)],[],[(0,.arr 126 tT1)]⟩,
 fun x=>qfr x⟩
theorem qen:FO qao:=fi [5] [] 8 [] .nil func238 ⟨trivial,trivial⟩
def qa2(s:yB4):Option yB4:=gd (fits (0+s.length) 24) (some ([]++s))
def qcq:Fun:={ f:=qao.f,np:=qao.np,nr:=qao.nr,ji:=qao.ji,jo:=qao.jo,tw:=fun x=>qa2 x }
theorem qfg:FO qcq:=qen.le fun x=>qmH x _
def qlr(s:List Int):Option (List Int):=
 bif Nat.beq s.length 0 then(bothO (
 some []) (
 gd (fits (0+s.length) 8)<|
 some ([]++s)))
 else(
 gd (fits (0+s.length) 8)<|
 some ([]++s))
def qaW:Fun:=
 ⟨192,1,1,
 ⟨r134_,[],[]⟩,
 ⟨[(0,ow 0)],[],[(0,.arr 3 I6)]⟩,
 fun x=>qlr x⟩
theorem qjf:FO qaW:=fi [5] [] 8 [] .nil func192 ⟨trivial,trivial⟩
def qb5(s:List Int):Option (List Int):=gd (fits (0+s.length) 8) (some ([]++s))
def qfN:Fun:={ f:=qaW.f,np:=qaW.np,nr:=qaW.nr,ji:=qaW.ji,jo:=qaW.jo,tw:=fun x=>qb5 x }
theorem qkj:FO qfN:=qjf.le fun x=>qmH x _
def qjF(s:List Bool):Option (List Bool):=
 bif Nat.beq s.length 0 then(bothO (
 some []) (
 gd (fits (0+s.length) 1)<|
 some ([]++s)))
 else(
 gd (fits (0+s.length) 1)<|
 some ([]++s))
def qaL:Fun:=
 ⟨239,1,1,
 ⟨[(0,dd (.sl (.bool)))],[],[]⟩,
 ⟨[(0,ow 0)],[],a145_⟩,
 fun x=>qjF x⟩
theorem qic:FO qaL:=fi [5] [] 8 [] .nil func239 ⟨trivial,trivial⟩
def qcy(s:List Bool):Option (List Bool):=gd (fits (0+s.length) 1) (some ([]++s))
def qey:Fun:={ f:=qaL.f,np:=qaL.np,nr:=qaL.nr,ji:=qaL.ji,jo:=qaL.jo,tw:=fun x=>qcy x }
theorem qjg:FO qey:=qic.le fun x=>qmH x _
def qid(d:yB5):Option (yB4×List Int×List Int×List Bool):=
 (qa2 d.1).bind fun r=>
 (qb5 d.2.1).bind fun r2=>
 (qb5 d.2.2.1).bind fun r3=>
 (qcy d.2.2.2).bind fun r4=>
 some (r,r2,r3,r4)
def qlR:Fun:=
 ⟨189,1,1,
 ⟨[(0,dd (.pair (.sl tT1) tT6))],[],[]⟩,
 ⟨[(0,.agg [.own 0,.own 1,.own 2,.own 3])],[],a59_⟩,
 fun x=>qid x⟩
theorem qqu:FO qlR:=fi [] [qcq,qfN,qey] 34 [] .nil func189 ⟨⟨qfg,qkj,qjg,trivial⟩,trivial⟩
def qdM(s:List yB3):Option (List yB3):=
 bif Nat.beq s.length 0 then(bothO (
 some []) (
 gd (fits (0+s.length) 64)<|
 some ([]++s)))
 else(
 gd (fits (0+s.length) 64)<|
 some ([]++s))
def qah:Fun:=
 ⟨190,1,1,
 ⟨[(0,dd (.sl tT3))],[],[]⟩,
 ⟨[(0,ow 0)],[],a129_⟩,
 fun x=>qdM x⟩
theorem qdf:FO qah:=fi [5] [] 8 [] .nil func190 ⟨trivial,trivial⟩
def qaH(s:List yB3):Option (List yB3):=gd (fits (0+s.length) 64) (some ([]++s))
def qbC:Fun:={ f:=qah.f,np:=qah.np,nr:=qah.nr,ji:=qah.ji,jo:=qah.jo,tw:=fun x=>qaH x }
theorem qdH:FO qbC:=qdf.le fun x=>qmH x _
def qed(s:List yB2):Option (List yB2):=
 bif Nat.beq s.length 0 then(bothO (
 some []) (
 gd (fits (0+s.length) 48)<|
 some ([]++s)))
 else(
 gd (fits (0+s.length) 48)<|
 some ([]++s))
def qai:Fun:=
 ⟨191,1,1,
 ⟨[(0,dd (.sl tT4))],[],[]⟩,
 ⟨[(0,ow 0)],[],[(0,.arr 140 tT4)]⟩,
 fun x=>qed x⟩
theorem qdI:FO qai:=fi [5] [] 8 [] .nil func191 ⟨trivial,trivial⟩
def qaj(s:List yB2):Option (List yB2):=gd (fits (0+s.length) 48) (some ([]++s))
def qa4:Fun:={ f:=qai.f,np:=qai.np,nr:=qai.nr,ji:=qai.ji,jo:=qai.jo,tw:=fun x=>qaj x }
theorem qbQ:FO qa4:=qdI.le fun x=>qmH x _
def qnj(s:List Int):Option (List Int):=
 bif Nat.beq s.length 0 then(bothO (
 some []) (
 gd (fits (0+s.length) 8)<|
 some ([]++s)))
 else(
 gd (fits (0+s.length) 8)<|
 some ([]++s))
def qa6:Fun:=
 ⟨192,1,1,
 ⟨r134_,[],[]⟩,
 ⟨r134_,[],[]⟩,
 fun x=>qnj x⟩
theorem qkk:FO qa6:=fi [5] [] 8 [] .nil func192 ⟨trivial,trivial⟩
def qcM(s:List Int):Option (List Int):=gd (fits (0+s.length) 8) (some ([]++s))
def qdT:Fun:={ f:=qa6.f,np:=qa6.np,nr:=qa6.nr,ji:=qa6.ji,jo:=qa6.jo,tw:=fun x=>qcM x }
theorem qg5:FO qdT:=qkk.le fun x=>qmH x _
def qgu(r2:List yB3)(v:Int)(c2:List yB3)(c3:yB4)(c4:List Int)(c5:List Int)(c6:List Bool)(c7:List yB2):Option ((Int×(List yB3)×yB4×List Int×List Int×List Bool×List yB2)⊕(yB4×List Int×List Int×List Bool×(List yB3)×List yB2)):=
 bif decide (v<(r2.length:Int)) then(
 gd (inB v c2.length)<|
 (qcM ((((((c2.getD v.toNat (0,0,0,0,0,[])).2).2).2).2).2)).bind fun r4=>
 gd (inB v c2.length)<|
 some (.inl (wi64 (v+1),c2.set v.toNat ((c2.getD v.toNat (0,(0,(0,(0,(0,[])))))).1,(((c2.getD v.toNat (0,(0,(0,(0,(0,[])))))).2).1,((((c2.getD v.toNat (0,(0,(0,(0,(0,[])))))).2).2).1,(((((c2.getD v.toNat (0,(0,(0,(0,(0,[])))))).2).2).2).1,((((((c2.getD v.toNat (0,(0,(0,(0,(0,[])))))).2).2).2).2).1,r4))))),c3,c4,c5,c6,c7)))
 else(
 some (.inr (c3,c4,c5,c6,c2,c7)))
def qdg(c:yB11):Option (Int×yB4×List Int×List Int×List Bool×(List yB3)×List yB2):=
 (qid (c.1.1,c.1.2.1,c.1.2.2.1,c.1.2.2.2)).bind fun r=>
 (qaH c.2.1).bind fun r2=>
 (qaj c.2.2.1).bind fun r3=>
 (iter (fun x=>qgu r2 x.1 x.2.1 x.2.2.1 x.2.2.2.1 x.2.2.2.2.1 x.2.2.2.2.2.1 x.2.2.2.2.2.2) (0,r2,r.1,r.2.1,r.2.2.1,r.2.2.2,r3)).bind fun s=>
 some (c.2.2.2,s.1,s.2.1,s.2.2.1,s.2.2.2.1,s.2.2.2.2.1,s.2.2.2.2.2)
def qnv:Fun:=
 ⟨105,1,1,
 ⟨r98_,[],[]⟩,
 ⟨r110_,[],a57_⟩,
 fun x=>qdg x⟩
theorem qsO:FO qnv:=fi [] [qlR,qbC,qa4,qdT] 35 [] ((nn (nn (mm (nn (mm (.mk [] (some (⟨[(1,pt 32 0),(2,pt 48 0),(18,ow 176),(19,kk),(20,ii)],v72_,[(176,.arr 108 tT3),(128,.arr 126 tT1),(129,.arr 3 I6),(130,.arr 3 I6),(131,.arr 4 (.bool)),(224,.arr 140 tT4)]⟩,[⟨.x 0,⟨[(1,pt 32 0),(2,pt 48 0)],v72_,[(128,.arr 126 tT1),(129,.arr 3 I6),(130,.arr 3 I6),(131,.arr 4 (.bool)),(176,.arr 108 tT3),(224,.arr 140 tT4)]⟩⟩])) .nil .nil) .nil)) .nil)))) func105 ⟨⟨qqu,qdH,qbQ,qg5,trivial⟩,trivial⟩
def qfO(s:yB6):Option (Bool):=
 bif decide (s.1=0) then(
 bif decide (s.2.1=0) then(
 bif decide (s.2.2.1=0) then(
 bif decide (s.2.2.2.1=0) then(
 bif decide (s.2.2.2.2.1=0) then(
 bif decide (s.2.2.2.2.2.2=0) then(
 some (decide ((s.2.2.2.2.2.1.length:Int)=0)))
 else(
 some false))
 else(
 some false))
 else(
 some false))
 else(
 some false))
 else(
 some false))
 else(
 some false)
def qho:Fun:=
 ⟨193,1,1,
 ⟨[(0,dd tT2)],[],[]⟩,
 ⟨[(0,bb)],[],[]⟩,
 fun x=>qfO x⟩
theorem qk3:FO qho:=fi [] [] 40 [] .nil func193 ⟨trivial,trivial⟩
def qbw(n:Int)(most:Int):Option (Bool):=
 bif decide (0<=n) then(
 some (decide (n<=most)))
 else(
 some false)
def qie:Fun:=
 ⟨240,2,1,
 ⟨r60_,[],[]⟩,
 ⟨[(0,bb)],[],[]⟩,
 fun x=>qbw x.1 x.2⟩
theorem qof:FO qie:=fi [] [] 12 [] .nil func240 ⟨trivial,trivial⟩
def qbx(v:Int):Option (Bool):=
 bif decide (v<(-9007199254740992)) then(
 some true)
 else(
 some (decide (9007199254740992<v)))
def qif:Fun:=
 ⟨241,1,1,
 ⟨[(0,ii)],[],[]⟩,
 ⟨[(0,bb)],[],[]⟩,
 fun x=>qbx x⟩
theorem qog:FO qif:=fi [] [] 9 [] .nil func241 ⟨trivial,trivial⟩
def qgv(t:yB3):Option (Bool):=
 Option.bind (α:=Bool) (
 (qbw t.1 255).bind fun r=>
 bif !r then(
 some true)
 else(
 (qbw t.2.1 255).bind fun r2=>
 bif !r2 then(
 some true)
 else(
 (qbw t.2.2.1 2147483648).bind fun r3=>
 bif !r3 then(
 some true)
 else(
 (qbw t.2.2.2.1 1099511627776).bind fun r4=>
 bif !r4 then(
 some true)
 else(
 (qbw t.2.2.2.2.1 63).bind fun r5=>
 some (!r5)))))) fun s=>
 bif s then(
 some false)
 else(
 bif decide ((t.2.2.2.2.2.length:Int)<=16) then(
 (qaE t.2.2.2.2.2 (fun h=>(qbx h.1).bind fun y=>some y)).bind fun r6=>
 some (!r6))
 else(
 some false))
def qjG:Fun:=
 ⟨194,1,1,
 ⟨[(0,dd tT3)],[],[]⟩,
 ⟨[(0,bb)],[],[]⟩,
 fun x=>qgv x⟩
theorem qp2:FO qjG:=fi [] [qie,qbg,qif] 47 [] ((nn (nn (mm (mm (.mk [.join [⟨.n,⟨[(1,pt 32 0),(36,bb)],[(32,108,kp 6)],[]⟩⟩]] none .nil .nil) .nil) .nil)))) func194 ⟨⟨qof,qbK,qog,trivial⟩,trivial⟩
def qav(x:List yB3)(target:Int)(cmp:yB3×Int×Unit->Option Int)(i:Int)(j:Int):Option ((Int×Int)⊕Int):=
 bif decide (i<j) then(
 gd (inB (wi64 (Int.fdiv (wu64 (wi64 (i+j))) (2^shAmt .u64 1))) x.length)<|
 (cmp (x.getD (wi64 (Int.fdiv (wu64 (wi64 (i+j))) (2^shAmt .u64 1))).toNat (0,0,0,0,0,[]),target,())).bind fun r=>
 bif decide (r<0) then(
 some (.inl (wi64 ((wi64 (Int.fdiv (wu64 (wi64 (i+j))) (2^shAmt .u64 1)))+1),j)))
 else(
 some (.inl (i,wi64 (Int.fdiv (wu64 (wi64 (i+j))) (2^shAmt .u64 1))))))
 else(
 some (.inr i))
def qaD(x:List yB3)(target:Int)(cmp:yB3×Int×Unit->Option Int):Option (Int×Bool):=
 (iter (fun x2=>qav x target cmp x2.1 x2.2) (0,(x.length:Int))).bind fun s=>
 bif decide (s<(x.length:Int)) then(
 gd (inB s x.length)<|
 (cmp (x.getD s.toNat (0,0,0,0,0,[]),target,())).bind fun r2=>
 some (s,decide (r2=0)))
 else(
 some (s,false))
def qaT:Fun:=
 ⟨242,3,2,
 ⟨[(0,dd (.sl tT3)),(1,ii),(2,.one (.fn [.pair I6 (.pair I6 (.pair I6 (.pair I6 (.pair I6 (.sl I6))))),.int .i64] I6))],[],[]⟩,
 ⟨[(0,ii),(1,bb)],[],[]⟩,
 fun x=>qaD x.1 x.2.1 x.2.2⟩
theorem qbT:FO qaT:=fi [] [] 49 [] ((nn (nn (nn (mm (mm (.mk [] (some (⟨r133_,[],[]⟩,[⟨.x 0,⟨[(0,kk),(1,kk),(2,kk),(8,kk),(9,ii)],[],[]⟩⟩])) .nil .nil) .nil) .nil))))) func242 ⟨trivial,trivial⟩
def qhM(x:Int):Option (Bool):=
 some (!decide (x=x))
def qk4:Fun:=
 ⟨273,1,1,
 ⟨[(0,ii)],[],[]⟩,
 ⟨[(0,bb)],[],[]⟩,
 fun x=>qhM x⟩
theorem qqM:FO qk4:=fi [] [] 6 [] .nil func273 ⟨trivial,trivial⟩
def qig(x:Int)(y:Int):Option (Int):=
 (qhM x).bind fun r=>
 (qhM y).bind fun r2=>
 bif r then(
 bif r2 then(
 some 0)
 else(
 some (-1)))
 else(
 bif r2 then(
 some 1)
 else(
 bif decide (x<y) then(
 some (-1))
 else(
 bif decide (y<x) then(
 some 1)
 else(
 some 0))))
def qiT:Fun:=
 ⟨244,2,1,
 ⟨r60_,[],[]⟩,
 ⟨[(0,ii)],[],[]⟩,
 fun x=>qig x.1 x.2⟩
theorem qoY:FO qiT:=fi [] [qk4] 20 [] .nil func244 ⟨⟨qqM,trivial⟩,trivial⟩
def qdh(t:yB3)(s:Int):Option (Int):=
 (qig t.1 s).bind fun r=>
 some r
def qk5:Fun:=
 ⟨243,2,1,
 ⟨[(0,dd tT3),(1,ii)],[],[]⟩,
 ⟨[(0,ii)],[],[]⟩,
 fun x=>qdh x.1 x.2⟩
theorem qqN:FO qk5:=fi [] [qiT] 9 [] .nil func243 ⟨⟨qoY,trivial⟩,trivial⟩
def qkl(l:List yB3)(station:Int):Option (Int×Bool):=
 (qaD l station (fun h=>(qdh h.1 h.2.1).bind fun y=>some y)).bind fun r=>
 some (r.1,r.2)
def qnw:Fun:=
 ⟨195,2,2,
 ⟨[(0,dd (.sl tT3)),(1,ii)],[],[]⟩,
 ⟨[(0,ii),(1,bb)],[],[]⟩,
 fun x=>qkl x.1 x.2⟩
theorem qsP:FO qnw:=fi [] [qaT,qk5] 11 [] .nil func195 ⟨⟨qbT,qqN,trivial⟩,trivial⟩
def qby:Fun:=qgU 196 108 tT3 64
theorem qds:FO qby:=qEC ⟨_,func196,(by kernel_rfl),rfl⟩ underlying45 tk108.info rfl (by decide) (by decide) qDI (ins_grow' tk108.info rfl (by decide)) qAm
def qfP(a:yB3)(b:yB3):Option (Bool):=
 bif decide (a.1=b.1) then(
 bif decide (a.2.1<b.2.1) then(
 some true)
 else(
 bif decide (a.2.1=b.2.1) then(
 some (decide (a.2.2.1<b.2.2.1)))
 else(
 some false)))
 else(
 some false)
def qiU:Fun:=
 ⟨197,2,1,
 ⟨[(0,dd tT3),(1,dd tT3)],[],[]⟩,
 ⟨[(0,bb)],[],[]⟩,
 fun x=>qfP x.1 x.2⟩
theorem qoZ:FO qiU:=fi [] [] 31 [] .nil func197 ⟨trivial,trivial⟩
def qhN(v:yB0)(r:yB1)(c:Int)(c2:yB4)(c3:List Int)(c4:List Int)(c5:List Bool)(c6:List yB3)(c7:List yB2):Option (Int×Int×yB4×List Int×List Int×List Bool×(List yB3)×List yB2):=
 Option.bind (α:=yB13) (
 bif decide ((r.2.1.length:Int)<5) then(
 some (true,c2,c3,c4,c5,c6,c7))
 else(
 (qfO (r.2.2.1.1,r.2.2.1.2.1,r.2.2.1.2.2.1,r.2.2.1.2.2.2.1,r.2.2.1.2.2.2.2.1,r.2.2.1.2.2.2.2.2.1,r.2.2.1.2.2.2.2.2.2)).bind fun r2=>
 bif !r2 then(
 some (true,c2,c3,c4,c5,c6,c7))
 else(
 some ((!(decide (r.2.2.2.1=[])&&(decide (r.2.2.2.2.1=0)&&decide (r.2.2.2.2.2=0)))),c2,c3,c4,c5,c6,c7)))) fun s=>
 bif s.1 then(
 some (28,c,s.2.1,s.2.2.1,s.2.2.2.1,s.2.2.2.2.1,s.2.2.2.2.2.1,s.2.2.2.2.2.2))
 else(
 gd (inB 0 r.2.1.length)<|
 gd (inB 1 r.2.1.length)<|
 gd (inB 2 r.2.1.length)<|
 gd (inB 3 r.2.1.length)<|
 gd (inB 4 r.2.1.length)<|
 gd (cutG (some (.i64,5)) none r.2.1.length)<|
 (qcM (r.2.1.drop 5)).bind fun r3=>
 (qgv (r.2.1.getD 0 0,r.2.1.getD 1 0,r.2.1.getD 2 0,r.2.1.getD 3 0,r.2.1.getD 4 0,r3)).bind fun r4=>
 bif !r4 then(
 some (28,c,s.2.1,s.2.2.1,s.2.2.2.1,s.2.2.2.2.1,s.2.2.2.2.2.1,s.2.2.2.2.2.2))
 else(
 (qkl s.2.2.2.2.2.1 (r.2.1.getD 0 0)).bind fun r5=>
 bif !r5.2 then(
 (insT 64 r5.1 s.2.2.2.2.2.1 [(r.2.1.getD 0 0,r.2.1.getD 1 0,r.2.1.getD 2 0,r.2.1.getD 3 0,r.2.1.getD 4 0,r3)]).bind fun r6=>
 some (0,c,s.2.1,s.2.2.1,s.2.2.2.1,s.2.2.2.2.1,r6,s.2.2.2.2.2.2))
 else(
 gd (inB r5.1 s.2.2.2.2.2.1.length)<|
 (qfP (s.2.2.2.2.2.1.getD r5.1.toNat (0,0,0,0,0,[])) (r.2.1.getD 0 0,r.2.1.getD 1 0,r.2.1.getD 2 0,r.2.1.getD 3 0,r.2.1.getD 4 0,r3)).bind fun r7=>
 bif !r7 then(
 some (6,c,s.2.1,s.2.2.1,s.2.2.2.1,s.2.2.2.2.1,s.2.2.2.2.2.1,s.2.2.2.2.2.2))
 else(
 gd (inB r5.1 s.2.2.2.2.2.1.length)<|
 some (0,c,s.2.1,s.2.2.1,s.2.2.2.1,s.2.2.2.2.1,s.2.2.2.2.2.1.set r5.1.toNat (r.2.1.getD 0 0,(r.2.1.getD 1 0,(r.2.1.getD 2 0,(r.2.1.getD 3 0,(r.2.1.getD 4 0,r3))))),s.2.2.2.2.2.2)))))
def qk6:Fun:=
 ⟨106,3,1,
 ⟨r50_,v66_,a8_⟩,
 ⟨[(0,ii)],v61_,a28_⟩,
 fun x=>qhN x.1 x.2.1 x.2.2.1 x.2.2.2.1 x.2.2.2.2.1 x.2.2.2.2.2.1 x.2.2.2.2.2.2.1 x.2.2.2.2.2.2.2.1 x.2.2.2.2.2.2.2.2⟩
theorem qqO:FO qk6:=fi [78] [qho,qdT,qjG,qnw,qby,qiU] 93 [] ((nn (mm (mm (.mk [.join [⟨.n,⟨[(1,pt 0 0),(5,pt 96 0),(26,bb)],v85_,a8_⟩⟩]] none .nil .nil) .nil) .nil))) func106 ⟨⟨qk3,qg5,qp2,qsP,qds,qoZ,trivial⟩,trivial⟩
def qal(s:yB4)(f:(Int×Int×Bool×Bool)×Unit->Option Bool)(v:Int):Option (Int⊕(Unit⊕Int)):=
 bif decide (v<(s.length:Int)) then(
 gd (inB v s.length)<|
 (f (s.getD v.toNat (0,0,false,false),())).bind fun r=>
 bif r then(
 some (.inr (.inr v)))
 else(
 some (.inl (wi64 (v+1)))))
 else(
 some (.inr (.inl ())))
def qaM(s:yB4)(f:(Int×Int×Bool×Bool)×Unit->Option Bool):Option (Int):=
 (iter (fun x=>qal s f x) 0).bind fun s2=>
 s2.elim (fun s3=>
 some (-1))
 (fun s4=>
 some s4)
def qbR:Fun:=
 ⟨203,2,1,
 ⟨r78_,[],[]⟩,
 ⟨[(0,ii)],[],[]⟩,
 fun x=>qaM x.1 x.2⟩
theorem qdU:FO qbR:=fi [] [] 19 [] ((nn (mm (nn (mm (.mk [] (some (⟨r32_,[],[]⟩,[⟨.x 0,⟨[],[],[]⟩⟩,⟨.r,⟨[(4,ii)],[],[]⟩⟩])) .nil .nil) .nil)) .nil))) func203 ⟨trivial,trivial⟩
def qas(s:yB4)(f:(Int×Int×Bool×Bool)×Unit->Option Bool):Option (Bool):=
 (qaM s f).bind fun r=>
 some (decide (0<=r))
def qbz:Fun:=
 ⟨122,2,1,
 ⟨r78_,[],[]⟩,
 ⟨[(0,bb)],[],[]⟩,
 fun x=>qas x.1 x.2⟩
theorem qdt:FO qbz:=fi [] [qbR] 9 [] .nil func122 ⟨⟨qdU,trivial⟩,trivial⟩
def qg6(v:Int×Int×Bool×Bool):Option (Bool):=
 (qdS (v.1,v.2.1,v.2.2.1,v.2.2.2)).bind fun r=>
 some (!r)
def qlS:Fun:=
 ⟨123,1,1,
 ⟨[(0,dd tT1)],[],[]⟩,
 ⟨[(0,bb)],[],[]⟩,
 fun x=>qg6 x⟩
theorem qrY:FO qlS:=fi [] [qdz] 6 [] .nil func123 ⟨⟨qew,trivial⟩,trivial⟩
def qih(rate:Int)(most:Int):Option (Bool):=
 bif decide (wi64 (0-most)<=rate) then(
 some (decide (rate<=most)))
 else(
 some false)
def qjh:Fun:=
 ⟨204,2,1,
 ⟨r60_,[],[]⟩,
 ⟨[(0,bb)],[],[]⟩,
 fun x=>qih x.1 x.2⟩
theorem qnx:FO qjh:=fi [] [] 14 [] .nil func204 ⟨trivial,trivial⟩
def qiV(rate:Int):Option (Bool):=
 (qih rate 1000).bind fun r=>
 some (!r)
def qlT:Fun:=
 ⟨205,1,1,
 ⟨[(0,ii)],[],[]⟩,
 ⟨[(0,bb)],[],[]⟩,
 fun x=>qiV x⟩
theorem qrZ:FO qlT:=fi [] [qjh] 6 [] .nil func205 ⟨⟨qnx,trivial⟩,trivial⟩
def qdu(vfrom:Int)(to:Int)(rate:Int)(s:List Int×List Int):Option (List Int×List Int):=
 Option.bind (α:=Int×Int×Int×List Int×List Int) (
 bif decide (rate<0) then(
 some (to,vfrom,wi64 (0-rate),s))
 else(
 some (vfrom,to,rate,s))) fun s2=>
 Option.bind (α:=List Int×List Int) (
 bif decide (0<=s2.1) then(
 gd (inB s2.1 24)<|
 gd (inB s2.1 24)<|
 some (s2.2.2.2.1,s2.2.2.2.2.set s2.1.toNat (wi64 ((s2.2.2.2.2.getD s2.1.toNat 0)+s2.2.2.1))))
 else(
 some s2.2.2.2)) fun s3=>
 bif decide (0<=s2.2.1) then(
 gd (inB s2.2.1 24)<|
 gd (inB s2.2.1 24)<|
 some (s3.1.set s2.2.1.toNat (wi64 ((s3.1.getD s2.2.1.toNat 0)+s2.2.2.1)),s3.2))
 else(
 some s3)
def qii:Fun:=
 ⟨251,4,0,
 ⟨[(0,.one (.ael 0 48)),(1,ii),(2,ii),(3,ii)],[],a70_⟩,
 ⟨[],[],a70_⟩,
 fun x=>qdu x.1 x.2.1 x.2.2.1 x.2.2.2⟩
theorem qoh:FO qii:=fi [] [] 40 [] ((mm (nn (.mk [.join [⟨.n,⟨[(0,.one (.ael 0 48)),(1,ii),(2,ii),(3,ii)],[],a70_⟩⟩]] none .nil .nil)) (mm (nn (.mk [.join [⟨.n,⟨[(0,.one (.ael 0 48)),(2,kk),(3,kk)],[],a70_⟩⟩]] none .nil .nil)) .nil))) func251 ⟨trivial,trivial⟩
def qdV(n:yB0)(p:yB7)(v:Int)(v2:List Int×List Int)(out:List Int×List Int):Option ((Int×(List Int×List Int)×List Int×List Int)⊕((List Int×List Int)×List Int×List Int)):=
 bif decide (v<(n.2.1.length:Int)) then(
 gd (inB v n.2.1.length)<|
 gd (inB v p.1.length)<|
 (qdu (((n.2.1.getD v.toNat ([],0,0,0,0,0,[])).2).1) ((((n.2.1.getD v.toNat ([],0,0,0,0,0,[])).2).2).1) (p.1.getD v.toNat 0) out).bind fun r=>
 some (.inl (wi64 (v+1),v2,r)))
 else(
 some (.inr (v2,out)))
def qdW(n:yB0)(p:yB7)(v3:Int)(v4:List Int×List Int)(out2:List Int×List Int):Option ((Int×(List Int×List Int)×List Int×List Int)⊕((List Int×List Int)×List Int×List Int)):=
 bif decide (v3<(n.2.2.1.length:Int)) then(
 gd (inB v3 n.2.2.1.length)<|
 gd (inB v3 p.2.1.length)<|
 (qdu (-1) (((n.2.2.1.getD v3.toNat ([],0,0)).2).1) (p.2.1.getD v3.toNat 0) out2).bind fun r2=>
 some (.inl (wi64 (v3+1),v4,r2)))
 else(
 some (.inr (v4,out2)))
def qlU(n:yB0)(p:yB7):Option (List Int×List Int):=
 (iter (fun x=>qdV n p x.1 x.2.1 x.2.2) (0,((List.replicate 24 0),List.replicate 24 0),(List.replicate 24 0),List.replicate 24 0)).bind fun s=>
 (iter (fun x2=>qdW n p x2.1 x2.2.1 x2.2.2) (0,s.1,s.2)).bind fun s2=>
 some s2.2
def qlV:Fun:=
 ⟨206,2,1,
 ⟨r53_,[],[]⟩,
 ⟨[(0,dd (.pair (.arr 24 I6) (.arr 24 I6)))],[],[]⟩,
 fun x=>qlU x.1 x.2⟩
theorem qqv:FO qlV:=fi [3000004,3000005] [qii] 47 [] ((nn (nn (mm (nn (mm (.mk [] (some (⟨[(2,pt 48 0),(3,pt 64 0),(4,.one (.ael 80 48)),(5,.one (.ael 96 48)),(11,kk),(12,kk),(13,ii)],v0_,a19_⟩,[⟨.x 0,⟨[(2,pt 48 0),(3,pt 64 0),(4,.one (.ael 80 48)),(5,.one (.ael 96 48))],v0_,a19_⟩⟩])) .nil .nil) .nil)) (mm (nn (mm (.mk [] (some (⟨[(3,pt 64 0),(4,.one (.ael 80 48)),(5,.one (.ael 96 48)),(30,kk),(31,kk),(32,ii)],[(64,42,[.keep,.keep,.keep])],a19_⟩,[⟨.x 2,⟨[(4,.one (.ael 80 48)),(5,.one (.ael 96 48))],[],a19_⟩⟩])) .nil .nil) .nil)) .nil))))) func206 ⟨⟨qoh,trivial⟩,trivial⟩
def qo0(s:yB9)(rate:Int):Option (Int×Int):=
 bif decide (rate<0) then(
 some (s.2.2.1,s.2.1))
 else(
 some (s.2.1,s.2.2.1))
def qqw:Fun:=
 ⟨252,2,2,
 ⟨[(0,dd (.pair (.str) tT5)),(1,ii)],[],[]⟩,
 ⟨r60_,[],[]⟩,
 fun x=>qo0 x.1 x.2⟩
theorem qvK:FO qqw:=fi [] [] 16 [] .nil func252 ⟨trivial,trivial⟩
def qb9(n:yB0)(p:yB7)(k:Int)(v:Int)(out2:List Int)(there2:List Bool):Option ((Int×List Int×List Bool)⊕((List Int×List Bool)⊕(List Int×List Bool))):=
 bif decide (v<(n.2.1.length:Int)) then(
 gd (inB v n.2.1.length)<|
 gd (inB v p.1.length)<|
 (qo0 ((n.2.1.getD v.toNat ([],0,0,0,0,0,[])).1,((n.2.1.getD v.toNat ([],0,0,0,0,0,[])).2).1,(((n.2.1.getD v.toNat ([],0,0,0,0,0,[])).2).2).1,((((n.2.1.getD v.toNat ([],0,0,0,0,0,[])).2).2).2).1,(((((n.2.1.getD v.toNat ([],0,0,0,0,0,[])).2).2).2).2).1,((((((n.2.1.getD v.toNat ([],0,0,0,0,0,[])).2).2).2).2).2).1,((((((n.2.1.getD v.toNat ([],0,0,0,0,0,[])).2).2).2).2).2).2) (p.1.getD v.toNat 0)).bind fun r=>
 Option.bind (α:=Bool×List Int×List Bool) (
 gd (inB v p.1.length)<|
 bif !decide (p.1.getD v.toNat 0=0) then(
 bif decide (r.2=k) then(
 gd (inB r.1 there2.length)<|
 some ((!(there2.getD r.1.toNat false)),out2,there2))
 else(
 some (false,out2,there2)))
 else(
 some (false,out2,there2))) fun s=>
 bif s.1 then(
 some (.inr (.inl (s.2.1,s.2.2))))
 else(
 some (.inl (wi64 (v+1),s.2.1,s.2.2))))
 else(
 some (.inr (.inr (out2,there2))))
def qaR(n:yB0)(p:yB7)(k:Int)(out:List Int)(there:List Bool):Option ((Int×List Int×List Bool)⊕(List Int)):=
 bif decide (k<(n.1.length:Int)) then(
 Option.bind (α:=Int×List Int×List Bool) (
 gd (inB k there.length)<|
 bif there.getD k.toNat false then(
 some (k,out,there))
 else(
 (iter (fun x=>qb9 n p k x.1 x.2.1 x.2.2) (0,out,there)).bind fun s2=>
 s2.elim (fun s3=>
 some (k,s3.1,s3.2))
 (fun s4=>
 gd (inB k s4.2.length)<|
 gd (fits (s4.1.length+1) 8)<|
 some ((-1),s4.1++[k],s4.2.set k.toNat true)))) fun s5=>
 some (.inl (wi64 (s5.1+1),s5.2.1,s5.2.2)))
 else(
 some (.inr out))
def qmI(n:yB0)(p:yB7):Option (List Int):=
 gd (makeG 1 (n.1.length:Int))<|
 (iter (fun x2=>qaR n p x2.1 x2.2.1 x2.2.2) (0,[],List.replicate (n.1.length:Int).toNat (false:Bool))).bind fun s6=>
 some s6
def qo1:Fun:=
 ⟨207,2,1,
 ⟨r53_,[],[]⟩,
 ⟨[(0,ow 0)],[],[(0,.arr 3 I6)]⟩,
 fun x=>qmI x.1 x.2⟩
theorem que:FO qo1:=fi [] [qqw] 72 [] ((nn (mm (nn (nn (nn (mm (nn (mm (.mk [] (some (⟨r117_,v0_,a44_⟩,[⟨.x 0,⟨[(5,ow 107)],[],[(107,.arr 3 I6)]⟩⟩])) (nn (mm (.mk [.join [⟨.n,⟨r117_,v0_,a44_⟩⟩]] none (nn (mm (nn (mm (.mk [] (some (⟨[(2,pt 48 0),(3,pt 64 0),(5,ow 107),(6,ow 256),(7,kk),(28,kk),(29,kk),(30,ii)],v0_,a44_⟩,[⟨.x 1,⟨r118_,v0_,a44_⟩⟩,⟨.x 2,⟨r118_,v0_,a44_⟩⟩])) (nn (nn (mm (mm (nn (nn (mm (.mk [.join [⟨.n,⟨[(2,pt 48 0),(3,pt 64 0),(5,ow 107),(6,ow 256),(7,kk),(28,kk),(29,kk),(30,kk),(62,bb)],v0_,a44_⟩⟩]] none .nil .nil) .nil))) .nil) .nil))) .nil) .nil)) .nil)) .nil) .nil)) .nil) .nil)) .nil)))) .nil))) func207 ⟨⟨qvK,trivial⟩,trivial⟩
def qhO(n:yB0)(p:yB7)(v:Int):Option (Int⊕(Unit⊕Int)):=
 bif decide (v<(n.2.1.length:Int)) then(
 gd (inB v n.2.1.length)<|
 gd (inB v p.1.length)<|
 (qih (p.1.getD v.toNat 0) (min 1000 (((((n.2.1.getD v.toNat ([],0,0,0,0,0,[])).2).2).2).1))).bind fun r2=>
 bif !r2 then(
 some (.inr (.inr 1)))
 else(
 some (.inl (wi64 (v+1)))))
 else(
 some (.inr (.inl ())))
def qgf(n:yB0)(p:yB7):Option (Int):=
 (qbE (n.1,n.2.1,n.2.2.1,n.2.2.2.1,n.2.2.2.2.1,n.2.2.2.2.2)).bind fun r=>
 bif !decide (r=0) then(
 some r)
 else(
 Option.bind (α:=Bool) (
 bif !decide ((p.1.length:Int)=(n.2.1.length:Int)) then(
 some true)
 else(
 bif !decide ((p.2.1.length:Int)=(n.2.2.1.length:Int)) then(
 some true)
 else(
 some (!decide ((p.2.2.length:Int)=(n.2.2.2.1.length:Int)))))) fun s=>
 bif s then(
 some 9)
 else(
 (iter (fun x=>qhO n p x) 0).bind fun s2=>
 s2.elim (fun s3=>
 (qaE p.2.1 (fun h=>(qiV h.1).bind fun y=>some y)).bind fun r3=>
 bif r3 then(
 some 1)
 else(
 (qlU (n.1,n.2.1,n.2.2.1,n.2.2.2.1,n.2.2.2.2.1,n.2.2.2.2.2) (p.1,p.2.1,p.2.2)).bind fun r4=>
 bif !((List.range 24).all fun i=>decide ((r4.1.getD i 0)=(r4.2.getD i 0))) then(
 some 12)
 else(
 (qmI (n.1,n.2.1,n.2.2.1,n.2.2.2.1,n.2.2.2.2.1,n.2.2.2.2.2) (p.1,p.2.1,p.2.2)).bind fun r5=>
 bif decide ((r5.length:Int)<(n.1.length:Int)) then(
 some 13)
 else(
 some 0))))
 (fun s4=>
 some s4)))
def qfQ:Fun:=
 ⟨125,2,1,
 ⟨r53_,[],[]⟩,
 ⟨[(0,ii)],[],[]⟩,
 fun x=>qgf x.1 x.2⟩
theorem qhP:FO qfQ:=fi [3000008] [qbv,qjh,qbg,qlT,qlV,qo1] 77 [] ((nn (nn (mm (mm (.mk [.join [⟨.n,⟨[(2,pt 48 0),(3,pt 64 0),(38,bb)],v0_,[]⟩⟩]] none .nil .nil) .nil) (mm (nn (mm (.mk [] (some (⟨[(2,pt 48 0),(3,pt 64 0),(40,kk),(41,kk),(42,ii)],v0_,[]⟩,[⟨.x 0,⟨r29_,v0_,[]⟩⟩,⟨.r,⟨[(4,ii)],[],[]⟩⟩])) .nil .nil) .nil)) .nil))))) func125 ⟨⟨qb1,qnx,qbK,qrZ,qqv,que,trivial⟩,trivial⟩
def qcr(rates:List Int)(v:Int)(out:List Bool):Option ((Int×List Bool)⊕(List Bool)):=
 bif decide (v<(rates.length:Int)) then(
 gd (inB v rates.length)<|
 gd (fits (out.length+1) 1)<|
 some (.inl (wi64 (v+1),out++[(!decide (rates.getD v.toNat 0=0))])))
 else(
 some (.inr out))
def qg7(rates:List Int):Option (List Bool):=
 (iter (fun x=>qcr rates x.1 x.2) (0,[])).bind fun s=>
 some s
def qlW:Fun:=
 ⟨208,1,1,
 ⟨r134_,[],[]⟩,
 ⟨[(0,ow 0)],[],a145_⟩,
 fun x=>qg7 x⟩
theorem qr0:FO qlW:=fi [] [] 19 [] ((nn (nn (mm (nn (mm (.mk [] (some (⟨[(3,ow 75),(6,kk),(7,kk),(8,ii)],[],[(75,.arr 4 (.bool))]⟩,[⟨.x 0,⟨[(3,ow 75)],[],[(75,.arr 4 (.bool))]⟩⟩])) .nil .nil) .nil)) .nil)))) func208 ⟨trivial,trivial⟩
def qgg(n:yB0)(p:yB7):Option (Int×List Bool×List Bool):=
 (qbE (n.1,n.2.1,n.2.2.1,n.2.2.2.1,n.2.2.2.2.1,n.2.2.2.2.2)).bind fun r=>
 bif !decide (r=0) then(
 some (r,[],[]))
 else(
 (qgf (n.1,n.2.1,n.2.2.1,n.2.2.2.1,n.2.2.2.2.1,n.2.2.2.2.2) (p.1,p.2.1,p.2.2)).bind fun r2=>
 bif !decide (r2=0) then(
 some (r2,[],[]))
 else(
 (qg7 p.1).bind fun r3=>
 (qg7 p.2.1).bind fun r4=>
 some (0,r3,r4)))
def qji:Fun:=
 ⟨126,2,2,
 ⟨r53_,[],[]⟩,
 ⟨[(0,.agg [.own 0,.own 1]),(1,ii)],[],[(0,.arr 4 (.bool)),(1,.arr 4 (.bool))]⟩,
 fun x=>qgg x.1 x.2⟩
theorem qny:FO qji:=fi [] [qbv,qfQ,qlW] 28 [] .nil func126 ⟨⟨qb1,qhP,qr0,trivial⟩,trivial⟩
def qez(l:List Bool×List Bool):Option (List Bool):=
 gd (fits (0+l.1.length) 1)<|
 gd (fits (([]++l.1).length+l.2.length) 1)<|
 some (([]++l.1)++l.2)
def qgh:Fun:=
 ⟨127,1,1,
 ⟨[(0,dd (.pair (.sl (.bool)) (.sl (.bool))))],[],[]⟩,
 ⟨[(0,ow 0)],[],a145_⟩,
 fun x=>qez x⟩
theorem qjH:FO qgh:=fi [] [] 11 [] .nil func127 ⟨trivial,trivial⟩
def qmJ(v:Int×Int×Bool×Bool):Option (Bool):=
 (qdS (v.1,v.2.1,v.2.2.1,v.2.2.2)).bind fun r=>
 bif r then(
 some (decide (v.2.1=v.1)))
 else(
 some false)
def qo2:Fun:=
 ⟨209,1,1,
 ⟨[(0,dd tT1)],[],[]⟩,
 ⟨[(0,bb)],[],[]⟩,
 fun x=>qmJ x⟩
theorem quf:FO qo2:=fi [] [qdz] 12 [] .nil func209 ⟨⟨qew,trivial⟩,trivial⟩
def qjI(v:Int×Int×Bool×Bool):Option (Bool):=
 (qmJ (v.1,v.2.1,v.2.2.1,v.2.2.2)).bind fun r=>
 bif r then(
 some v.2.2.1)
 else(
 some false)
def qkm:Fun:=
 ⟨128,1,1,
 ⟨[(0,dd tT1)],[],[]⟩,
 ⟨[(0,bb)],[],[]⟩,
 fun x=>qjI x⟩
theorem qo3:FO qkm:=fi [] [qo2] 9 [] .nil func128 ⟨⟨quf,trivial⟩,trivial⟩
def qiW(n:yB0)(p:yB7)(node:Int):Option (Int×Int):=
 (qgf (n.1,n.2.1,n.2.2.1,n.2.2.2.1,n.2.2.2.2.1,n.2.2.2.2.2) (p.1,p.2.1,p.2.2)).bind fun r=>
 bif !decide (r=0) then(
 some (0,r))
 else(
 Option.bind (α:=Bool) (
 bif decide (node<0) then(
 some true)
 else(
 some (decide ((n.1.length:Int)<=node)))) fun s=>
 bif s then(
 some (0,8))
 else(
 (qlU (n.1,n.2.1,n.2.2.1,n.2.2.2.1,n.2.2.2.2.1,n.2.2.2.2.2) (p.1,p.2.1,p.2.2)).bind fun r2=>
 gd (inB node 24)<|
 some (r2.1.getD node.toNat 0,0)))
def qlX:Fun:=
 ⟨253,3,2,
 ⟨r111_,[],[]⟩,
 ⟨r60_,[],[]⟩,
 fun x=>qiW x.1 x.2.1 x.2.2⟩
theorem qr1:FO qlX:=fi [] [qfQ,qlV] 30 [] ((nn (nn (mm (mm (.mk [.join [⟨.n,⟨[(2,kk),(3,pt 64 0),(4,pt 80 0),(23,bb)],v25_,[]⟩⟩]] none .nil .nil) .nil) .nil)))) func253 ⟨⟨qhP,qqv,trivial⟩,trivial⟩
def qij(n:yB0)(p:yB7)(station:Int):Option (Bool):=
 gd (inB station n.2.2.2.1.length)<|
 (qiW (n.1,n.2.1,n.2.2.1,n.2.2.2.1,n.2.2.2.2.1,n.2.2.2.2.2) (p.1,p.2.1,p.2.2) (((n.2.2.2.1.getD station.toNat ([],0,0,0,0)).2).1)).bind fun r=>
 bif decide (r.2=0) then(
 some (!decide (r.1=0)))
 else(
 some false)
def qjj:Fun:=
 ⟨210,3,1,
 ⟨r111_,[],[]⟩,
 ⟨[(0,bb)],[],[]⟩,
 fun x=>qij x.1 x.2.1 x.2.2⟩
theorem qnz:FO qjj:=fi [] [qlX] 27 [] .nil func210 ⟨⟨qr1,trivial⟩,trivial⟩
def qkn(n:yB0)(p:yB7)(v:Int):Option (Int⊕(Unit⊕Bool)):=
 bif decide (v<(p.2.2.length:Int)) then(
 gd (inB v p.2.2.length)<|
 Option.bind (α:=Bool) (
 bif p.2.2.getD v.toNat false then(
 bif decide (v<(n.2.2.2.1.length:Int)) then(
 (qij (n.1,n.2.1,n.2.2.1,n.2.2.2.1,n.2.2.2.2.1,n.2.2.2.2.2) (p.1,p.2.1,p.2.2) v).bind fun r=>
 some (!r))
 else(
 some false))
 else(
 some false)) fun s=>
 bif s then(
 some (.inr (.inr true)))
 else(
 some (.inl (wi64 (v+1)))))
 else(
 some (.inr (.inl ())))
def qjJ(n:yB0)(p:yB7):Option (Bool):=
 (iter (fun x=>qkn n p x) 0).bind fun s2=>
 s2.elim (fun s3=>
 some false)
 (fun s4=>
 some s4)
def qko:Fun:=
 ⟨129,2,1,
 ⟨r53_,[],[]⟩,
 ⟨[(0,bb)],[],[]⟩,
 fun x=>qjJ x.1 x.2⟩
theorem qo4:FO qko:=fi [] [qjj] 31 [] ((nn (mm (nn (mm (.mk [] (some (⟨[(2,pt 48 0),(3,pt 64 0),(8,kk),(9,kk),(10,ii)],v0_,[]⟩,[⟨.x 0,⟨[],[],[]⟩⟩,⟨.r,⟨[(4,bb)],[],[]⟩⟩])) (nn (nn (mm (mm (nn (mm (.mk [.join [⟨.n,⟨[(2,pt 48 0),(3,pt 64 0),(8,kk),(9,kk),(10,kk),(29,bb)],v0_,[]⟩⟩]] none .nil .nil) .nil)) .nil) .nil))) .nil) .nil)) .nil))) func129 ⟨⟨qnz,trivial⟩,trivial⟩
def qca(d:yB5)(r6:List Bool)(v:Int)(v2:List Bool):Option ((Int×List Bool)⊕(Unit⊕Int)):=
 bif decide (v<(r6.length:Int)) then(
 gd (inB v v2.length)<|
 Option.bind (α:=Bool×List Bool) (
 bif v2.getD v.toNat false then(
 gd (inB v d.1.length)<|
 (qjI (d.1.getD v.toNat (0,0,false,false))).bind fun r7=>
 some ((!r7),v2))
 else(
 some (false,v2))) fun s2=>
 bif s2.1 then(
 some (.inr (.inr 21)))
 else(
 some (.inl (wi64 (v+1),s2.2))))
 else(
 some (.inr (.inl ())))
def qmK(n:yB0)(d:yB5):Option (Int):=
 (qbE (n.1,n.2.1,n.2.2.1,n.2.2.2.1,n.2.2.2.2.1,n.2.2.2.2.2)).bind fun r=>
 bif !decide (r=0) then(
 some r)
 else(
 Option.bind (α:=Bool) (
 (qg4 (n.1,n.2.1,n.2.2.1,n.2.2.2.1,n.2.2.2.2.1,n.2.2.2.2.2)).bind fun r2=>
 bif !decide ((d.1.length:Int)=r2) then(
 some true)
 else(
 (qas d.1 (fun h=>(qg6 h.1).bind fun y=>some y)).bind fun r3=>
 some r3)) fun s=>
 bif s then(
 some 20)
 else(
 (qgf (n.1,n.2.1,n.2.2.1,n.2.2.2.1,n.2.2.2.2.1,n.2.2.2.2.2) (d.2.1,d.2.2.1,d.2.2.2)).bind fun r4=>
 bif !decide (r4=0) then(
 some r4)
 else(
 (qgg (n.1,n.2.1,n.2.2.1,n.2.2.2.1,n.2.2.2.2.1,n.2.2.2.2.2) (d.2.1,d.2.2.1,d.2.2.2)).bind fun r5=>
 bif !decide (r5.1=0) then(
 some r5.1)
 else(
 (qez (r5.2.1,r5.2.2)).bind fun r6=>
 (iter (fun x=>qca d r6 x.1 x.2) (0,r6)).bind fun s3=>
 s3.elim (fun s4=>
 (qjJ (n.1,n.2.1,n.2.2.1,n.2.2.2.1,n.2.2.2.2.1,n.2.2.2.2.2) (d.2.1,d.2.2.1,d.2.2.2)).bind fun r8=>
 bif r8 then(
 some 21)
 else(
 some 0))
 (fun s5=>
 some s5)))))
def qo5:Fun:=
 ⟨55,2,1,
 ⟨[(0,dd tT0),(1,dd (.pair (.sl tT1) tT6))],[],[]⟩,
 ⟨[(0,ii)],[],[]⟩,
 fun x=>qmK x.1 x.2⟩
theorem qug:FO qo5:=fi [] [qbv,qib,qbz,qlS,qfQ,qji,qgh,qkm,qko] 67 [] ((nn (nn (mm (mm (.mk [.join [⟨.n,⟨[(2,pt 48 0),(3,pt 64 0),(26,bb)],v42_,[]⟩⟩]] none .nil .nil) .nil) (nn (nn (nn (mm (nn (mm (.mk [] (some (⟨[(2,pt 48 0),(3,pt 64 0),(45,ow 736),(46,kk),(47,ii)],v42_,[(736,.arr 4 (.bool))]⟩,[⟨.x 0,⟨r29_,v42_,[]⟩⟩,⟨.r,⟨[(4,ii)],[],[]⟩⟩])) (nn (nn (mm (mm (nn (mm (.mk [.join [⟨.n,⟨[(2,pt 48 0),(3,pt 64 0),(45,ow 736),(46,kk),(47,kk),(61,bb)],v42_,[(736,.arr 4 (.bool))]⟩⟩]] none .nil .nil) .nil)) .nil) .nil))) .nil) .nil)) .nil)))))))) func55 ⟨⟨qb1,qlP,qdt,qrY,qhP,qny,qjH,qo3,qo4,trivial⟩,trivial⟩
def qmL(s:yB6):Option (Bool):=
 Option.bind (α:=Bool) (
 bif decide (s.2.2.2.1=0) then(
 bif decide (s.2.2.2.2.1=0) then(
 bif decide ((s.2.2.2.2.2.1.length:Int)=0) then(
 some (decide (s.2.2.2.2.2.2=0)))
 else(
 some false))
 else(
 some false))
 else(
 some false)) fun s2=>
 Option.bind (α:=Bool) (
 bif decide (s.1=1) then(
 some (decide (s.1=1)))
 else(
 Option.bind (α:=Bool) (
 bif decide (s.1=2) then(
 some (decide (s.1=2)))
 else(
 Option.bind (α:=Bool) (
 bif decide (s.1=3) then(
 some (decide (s.1=3)))
 else(
 some (decide (s.1=4)))) fun s3=>
 some s3)) fun s4=>
 some s4)) fun s5=>
 bif s5 then(
 bif decide (s.2.2.1=0) then(
 some s2)
 else(
 some false))
 else(
 bif decide (s.1=5) then(
 bif decide (s.2.1=0) then(
 some (decide (s.2.2.2.2.2.2=0)))
 else(
 some false))
 else(
 bif decide (s.1=6) then(
 bif decide (s.2.1=0) then(
 some s2)
 else(
 some false))
 else(
 some false)))
def qo6:Fun:=
 ⟨275,1,1,
 ⟨[(0,dd tT2)],[],[]⟩,
 ⟨[(0,bb)],[],[]⟩,
 fun x=>qmL x⟩
theorem quh:FO qo6:=fi [] [] 57 [] ((nn (nn (mm (.mk [.join [⟨.n,⟨[(1,pt 32 0),(3,pt 64 0),(4,bb)],v108_,[]⟩⟩]] none .nil .nil) (mm (nn (mm (mm (nn (.mk [.join [⟨.n,⟨r83_,v108_,[]⟩⟩]] none .nil (nn (.mk [.join [⟨.n,⟨r83_,v108_,[]⟩⟩]] none .nil (nn (.mk [.join [⟨.n,⟨r83_,v108_,[]⟩⟩]] none .nil .nil)))))) .nil) .nil)) .nil))))) func275 ⟨trivial,trivial⟩
def qhQ(v:Int×Int×Bool×Bool)(vopen:Bool):Option ((Int×Int×Bool×Bool)×Int):=
 (qdS (v.1,v.2.1,v.2.2.1,v.2.2.2)).bind fun r=>
 bif !r then(
 some ((v.1,(v.2.1,(v.2.2.1,v.2.2.2))),20))
 else(
 some ((v.1,(v.2.1,(vopen,v.2.2.2))),0))
def qk7:Fun:=
 ⟨297,2,2,
 ⟨[(0,dd tT1),(1,bb)],[],[]⟩,
 ⟨r82_,[],[]⟩,
 fun x=>qhQ x.1 x.2⟩
theorem qqP:FO qk7:=fi [] [qdz] 13 [] .nil func297 ⟨⟨qew,trivial⟩,trivial⟩
def qlY(n:yB0)(s:yB6)(d:yB4)(d2:List Int)(d3:List Int)(d4:List Bool):Option yB10:=
 Option.bind (α:=Bool×yB4×List Int×List Int×List Bool) (
 bif decide (s.2.1<0) then(
 some (true,d,d2,d3,d4))
 else(
 some (decide ((d.length:Int)<=s.2.1),d,d2,d3,d4))) fun s2=>
 bif s2.1 then(
 some (8,s2.2.1,s2.2.2.1,s2.2.2.2.1,s2.2.2.2.2))
 else(
 Option.bind (α:=(yB4×List Int×List Int×List Bool)⊕yB10) (
 bif decide (s.1=2) then(
 (qgg (n.1,n.2.1,n.2.2.1,n.2.2.2.1,n.2.2.2.2.1,n.2.2.2.2.2) (s2.2.2.1,s2.2.2.2.1,s2.2.2.2.2)).bind fun r=>
 bif !decide (r.1=0) then(
 some (.inr (r.1,s2.2.1,s2.2.2.1,s2.2.2.2.1,s2.2.2.2.2)))
 else(
 (qez (r.2.1,r.2.2)).bind fun r2=>
 gd (inB s.2.1 r2.length)<|
 bif r2.getD s.2.1.toNat false then(
 some (.inr (22,s2.2.1,s2.2.2.1,s2.2.2.2.1,s2.2.2.2.2)))
 else(
 some (.inl (s2.2.1,s2.2.2.1,s2.2.2.2.1,s2.2.2.2.2)))))
 else(
 some (.inl (s2.2.1,s2.2.2.1,s2.2.2.2.1,s2.2.2.2.2)))) fun s3=>
 s3.elim (fun s4=>
 gd (inB s.2.1 s4.1.length)<|
 (qhQ (s4.1.getD s.2.1.toNat (0,0,false,false)) (decide (s.1=1))).bind fun r3=>
 gd (inB s.2.1 s4.1.length)<|
 some (r3.2,s4.1.set s.2.1.toNat (r3.1.1,(r3.1.2.1,(r3.1.2.2.1,r3.1.2.2.2))),s4.2.1,s4.2.2.1,s4.2.2.2))
 (fun s5=>
 some (s5.1,s5.2.1,s5.2.2.1,s5.2.2.2.1,s5.2.2.2.2)))
def qqx:Fun:=
 ⟨276,3,1,
 ⟨r71_,v6_,a1_⟩,
 ⟨[(0,ii)],v6_,a1_⟩,
 fun x=>qlY x.1 x.2.1 x.2.2.1 x.2.2.2.1 x.2.2.2.2.1 x.2.2.2.2.2⟩
theorem qvL:FO qqx:=fi [] [qji,qgh,qk7] 69 [] ((nn (mm (mm (.mk [.join [⟨.n,⟨[(1,pt 0 0),(3,pt 64 0),(5,pt 96 0),(23,bb)],v96_,a1_⟩⟩]] none .nil .nil) .nil) (mm (nn (.mk [.join [⟨.n,⟨[(1,pt 0 0),(5,pt 96 0)],v47_,a1_⟩⟩,⟨.r,⟨[(6,ii)],v6_,a1_⟩⟩]] none .nil .nil)) .nil)))) func276 ⟨⟨qny,qjH,qqP,trivial⟩,trivial⟩
def qo7(n:yB0)(s:yB6)(d:yB4)(d2:List Int)(d3:List Int)(d4:List Bool):Option yB10:=
 Option.bind (α:=Bool×yB4×List Int×List Int×List Bool) (
 bif decide (s.2.1<0) then(
 some (true,d,d2,d3,d4))
 else(
 some (decide ((n.2.2.2.1.length:Int)<=s.2.1),d,d2,d3,d4))) fun s2=>
 bif s2.1 then(
 some (8,s2.2.1,s2.2.2.1,s2.2.2.2.1,s2.2.2.2.2))
 else(
 Option.bind (α:=Bool×yB4×List Int×List Int×List Bool) (
 bif decide (s.1=3) then(
 (qij (n.1,n.2.1,n.2.2.1,n.2.2.2.1,n.2.2.2.2.1,n.2.2.2.2.2) (s2.2.2.1,s2.2.2.2.1,s2.2.2.2.2) s.2.1).bind fun r=>
 some ((!r),s2.2.1,s2.2.2.1,s2.2.2.2.1,s2.2.2.2.2))
 else(
 some (false,s2.2.1,s2.2.2.1,s2.2.2.2.1,s2.2.2.2.2))) fun s3=>
 bif s3.1 then(
 some (22,s3.2.1,s3.2.2.1,s3.2.2.2.1,s3.2.2.2.2))
 else(
 gd (inB s.2.1 s3.2.2.2.2.length)<|
 some (0,s3.2.1,s3.2.2.1,s3.2.2.2.1,s3.2.2.2.2.set s.2.1.toNat (decide (s.1=3)))))
def qr2:Fun:=
 ⟨277,3,1,
 ⟨r71_,v6_,a1_⟩,
 ⟨[(0,ii)],v6_,a1_⟩,
 fun x=>qo7 x.1 x.2.1 x.2.2.1 x.2.2.2.1 x.2.2.2.2.1 x.2.2.2.2.2⟩
theorem qwU:FO qr2:=fi [] [qjj] 43 [] ((nn (mm (mm (.mk [.join [⟨.n,⟨[(1,pt 0 0),(3,pt 64 0),(5,pt 96 0),(17,bb)],v96_,a1_⟩⟩]] none .nil .nil) .nil) (mm (mm (.mk [.join [⟨.n,⟨[(1,pt 0 0),(5,pt 96 0),(31,bb)],v47_,a1_⟩⟩]] none .nil .nil) .nil) .nil)))) func277 ⟨⟨qnz,trivial⟩,trivial⟩
def qhR(i:Int)(v:yB0):Option (Bool):=
 bif decide (0<=i) then(
 some (decide (i<(v.2.2.1.length:Int))))
 else(
 some false)
def qk8:Fun:=
 ⟨318,2,1,
 ⟨[(0,ii),(1,.one (.sel tT0))],[],[]⟩,
 ⟨[(0,bb)],[],[]⟩,
 fun x=>qhR x.1 x.2⟩
theorem qqQ:FO qk8:=fi [] [] 13 [] .nil func318 ⟨trivial,trivial⟩
def qmM(n:yB0)(h:Int×Bool):Option (Int×Int):=
 gd (inB h.1 n.2.1.length)<|
 bif h.2 then(
 some ((((n.2.1.getD h.1.toNat ([],(0,(0,(0,(0,(0,[]))))))).2).2).1,((n.2.1.getD h.1.toNat ([],(0,(0,(0,(0,(0,[]))))))).2).1))
 else(
 some (((n.2.1.getD h.1.toNat ([],(0,(0,(0,(0,(0,[]))))))).2).1,(((n.2.1.getD h.1.toNat ([],(0,(0,(0,(0,(0,[]))))))).2).2).1))
def qo8:Fun:=
 ⟨319,2,2,
 ⟨[(0,dd tT0),(1,dd (.pair I6 (.bool)))],[],[]⟩,
 ⟨r60_,[],[]⟩,
 fun x=>qmM x.1 x.2⟩
theorem qui:FO qo8:=fi [] [] 23 [] .nil func319 ⟨trivial,trivial⟩
def qa7(s:List Int)(v:Int)(v2:Int):Option (Int⊕(Unit⊕Int)):=
 bif decide (v2<(s.length:Int)) then(
 gd (inB v2 s.length)<|
 bif decide (v=s.getD v2.toNat 0) then(
 some (.inr (.inr v2)))
 else(
 some (.inl (wi64 (v2+1)))))
 else(
 some (.inr (.inl ())))
def qeo(s:List Int)(v:Int):Option (Int):=
 (iter (fun x=>qa7 s v x) 0).bind fun s2=>
 s2.elim (fun s3=>
 some (-1))
 (fun s4=>
 some s4)
def qfR:Fun:=
 ⟨323,2,1,
 ⟨[(0,dd (.sl I6)),(1,ii)],[],[]⟩,
 ⟨[(0,ii)],[],[]⟩,
 fun x=>qeo x.1 x.2⟩
theorem qkp:FO qfR:=fi [] [] 19 [] ((nn (mm (nn (mm (.mk [] (some (⟨r32_,[],[]⟩,[⟨.x 0,⟨[],[],[]⟩⟩,⟨.r,⟨[(4,ii)],[],[]⟩⟩])) .nil .nil) .nil)) .nil))) func323 ⟨trivial,trivial⟩
def qcb(s:List Int)(v:Int):Option (Bool):=
 (qeo s v).bind fun r=>
 some (decide (0<=r))
def qem:Fun:=
 ⟨320,2,1,
 ⟨[(0,dd (.sl I6)),(1,ii)],[],[]⟩,
 ⟨[(0,bb)],[],[]⟩,
 fun x=>qcb x.1 x.2⟩
theorem qiK:FO qem:=fi [] [qfR] 9 [] .nil func320 ⟨⟨qkp,trivial⟩,trivial⟩
def qcS(n:yB0)(p:yB8)(vat:Int)(v:Int)(passed:List Int):Option ((Int×Int×List Int)⊕(Int⊕Bool)):=
 bif decide (v<(p.2.2.1.length:Int)) then(
 gd (inB v p.2.2.1.length)<|
 Option.bind (α:=Bool×List Int) (
 bif decide ((p.2.2.1.getD v.toNat (0,false)).1<0) then(
 some (true,passed))
 else(
 some (decide ((n.2.1.length:Int)<=(p.2.2.1.getD v.toNat (0,false)).1),passed))) fun s2=>
 bif s2.1 then(
 some (.inr (.inr false)))
 else(
 (qmM (n.1,n.2.1,n.2.2.1,n.2.2.2.1,n.2.2.2.2.1,n.2.2.2.2.2) ((p.2.2.1.getD v.toNat (0,false)).1,(p.2.2.1.getD v.toNat (0,false)).2)).bind fun r3=>
 Option.bind (α:=Bool×List Int) (
 bif !decide (r3.1=vat) then(
 some (true,s2.2))
 else(
 (qcb s2.2 r3.2).bind fun r4=>
 some (r4,s2.2))) fun s3=>
 bif s3.1 then(
 some (.inr (.inr false)))
 else(
 gd (fits (s3.2.length+1) 8)<|
 some (.inl (r3.2,wi64 (v+1),s3.2++[r3.2])))))
 else(
 some (.inr (.inl vat)))
def qkq(n:yB0)(p:yB8):Option (Bool):=
 Option.bind (α:=Bool) (
 (qhR p.1 (n.1,n.2.1,n.2.2.1,n.2.2.2.1,n.2.2.2.2.1,n.2.2.2.2.2)).bind fun r=>
 bif !r then(
 some true)
 else(
 (qhR p.2.1 (n.1,n.2.1,n.2.2.1,n.2.2.2.1,n.2.2.2.2.1,n.2.2.2.2.2)).bind fun r2=>
 bif !r2 then(
 some true)
 else(
 bif decide (p.1=p.2.1) then(
 some true)
 else(
 bif decide (p.2.2.2<1) then(
 some true)
 else(
 bif decide (1000<p.2.2.2) then(
 some true)
 else(
 some (decide (32<(p.2.2.1.length:Int))))))))) fun s=>
 bif s then(
 some false)
 else(
 gd (inB p.1 n.2.2.1.length)<|
 (iter (fun x=>qcS n p x.1 x.2.1 x.2.2) (((n.2.2.1.getD p.1.toNat ([],0,0)).2).1,0,[((n.2.2.1.getD p.1.toNat ([],0,0)).2).1])).bind fun s4=>
 s4.elim (fun s5=>
 gd (inB p.2.1 n.2.2.1.length)<|
 some (decide (s5=((n.2.2.1.getD p.2.1.toNat ([],(0,0))).2).1)))
 (fun s6=>
 some s6))
def qnA:Fun:=
 ⟨308,2,1,
 ⟨r33_,[],[]⟩,
 ⟨[(0,bb)],[],[]⟩,
 fun x=>qkq x.1 x.2⟩
theorem qsQ:FO qnA:=fi [56] [qk8,qo8,qem] 104 [] ((nn (mm (.mk [.fv [(2,.pair (.sl (.str)) (.pair (.sl (.pair (.str) tT5)) (.pair (.sl tT7) (.pair (.sl tT4) (.pair I6 I6)))))]] none .nil .nil) (mm (mm (.mk [.join [⟨.n,⟨[(2,kk),(3,pt 64 0),(47,bb)],[(64,55,kp 4)],[]⟩⟩]] none .nil .nil) .nil) (nn (nn (mm (nn (mm (.mk [] (some (⟨[(2,kk),(3,pt 64 0),(6,ii),(7,ow 139),(58,kk),(59,kk),(60,ii)],[(64,55,kp 4)],a119_⟩,[⟨.x 0,⟨[(2,kk),(3,pt 64 0),(6,ii)],[(64,55,kp 4)],[]⟩⟩,⟨.r,⟨[(4,bb)],[],[]⟩⟩])) (nn (nn (mm (mm (nn (mm (mm (.mk [.join [⟨.n,⟨[(2,kk),(3,pt 64 0),(6,kk),(7,ow 139),(9,pt 160 0),(58,kk),(59,kk),(60,kk),(74,bb)],[(64,55,kp 4),(160,76,[.keep,.keep])],a119_⟩⟩]] none .nil .nil) .nil) (nn (mm (mm (.mk [.join [⟨.n,⟨[(2,kk),(3,pt 64 0),(7,ow 139),(11,kk),(58,kk),(59,kk),(60,kk),(88,bb)],[(64,55,kp 4)],a119_⟩⟩]] none .nil .nil) .nil) .nil)))) .nil) .nil))) .nil) .nil)) .nil))))))) func308 ⟨⟨qqQ,qui,qiK,trivial⟩,trivial⟩
def qkr(n:yB0)(p:yB8):Option (Bool):=
 (qbE (n.1,n.2.1,n.2.2.1,n.2.2.2.1,n.2.2.2.2.1,n.2.2.2.2.2)).bind fun r=>
 bif decide (r=0) then(
 (qkq (n.1,n.2.1,n.2.2.1,n.2.2.2.1,n.2.2.2.2.1,n.2.2.2.2.2) (p.1,p.2.1,p.2.2.1,p.2.2.2)).bind fun r2=>
 some r2)
 else(
 some false)
def qnB:Fun:=
 ⟨298,2,1,
 ⟨r33_,[],[]⟩,
 ⟨[(0,bb)],[],[]⟩,
 fun x=>qkr x.1 x.2⟩
theorem qsR:FO qnB:=fi [] [qbv,qnA] 13 [] .nil func298 ⟨⟨qb1,qsQ,trivial⟩,trivial⟩
def qfn(i:Int)(v:yB5):Option (Bool):=
 gd (inB i v.1.length)<|
 (qjI (v.1.getD i.toNat (0,0,false,false))).bind fun r=>
 some r
def qik:Fun:=
 ⟨309,2,1,
 ⟨[(0,ii),(1,.one (.sel (.pair (.sl tT1) tT6)))],[],[]⟩,
 ⟨[(0,bb)],[],[]⟩,
 fun x=>qfn x.1 x.2⟩
theorem qlZ:FO qik:=fi [] [qkm] 10 [] .nil func309 ⟨⟨qo3,trivial⟩,trivial⟩
def qmN(p:yB7)(h:Int×Bool):Option (Int):=
 bif h.2 then(
 gd (inB h.1 p.1.length)<|
 some (wi64 (0-(p.1.getD h.1.toNat 0))))
 else(
 gd (inB h.1 p.1.length)<|
 some (p.1.getD h.1.toNat 0))
def qo9:Fun:=
 ⟨312,2,1,
 ⟨[(0,dd tT6),(1,dd (.pair I6 (.bool)))],[],[]⟩,
 ⟨[(0,ii)],[],[]⟩,
 fun x=>qmN x.1 x.2⟩
theorem quj:FO qo9:=fi [] [] 20 [] .nil func312 ⟨trivial,trivial⟩
def qfo(h:Int×Bool)(v:yB5)(v2:yB5)(v3:Int):Option (Bool):=
 (qmN v.2 (h.1,h.2)).bind fun r=>
 (qfn h.1 v2).bind fun r2=>
 bif !r2 then(
 some true)
 else(
 bif decide (r<0) then(
 some true)
 else(
 some (decide (wi64 (r+v3)<0))))
def ql0:Fun:=
 ⟨311,4,1,
 ⟨[(0,dd (.pair I6 (.bool))),(1,.one (.sel (.pair (.sl tT1) tT6))),(2,.one (.sel (.clo 309 (.pair (.sl tT1) tT6)))),(3,.one (.sel I6))],[],[]⟩,
 ⟨[(0,bb)],[],[]⟩,
 fun x=>qfo x.1 x.2.1 x.2.2.1 x.2.2.2⟩
theorem qr3:FO ql0:=fi [] [qo9,qik] 26 [] .nil func311 ⟨⟨quj,qlZ,trivial⟩,trivial⟩
def qaq(s:List (Int×Bool))(f:(Int×Bool)×Unit->Option Bool)(v:Int):Option (Int⊕(Unit⊕Int)):=
 bif decide (v<(s.length:Int)) then(
 gd (inB v s.length)<|
 (f (s.getD v.toNat (0,false),())).bind fun r=>
 bif r then(
 some (.inr (.inr v)))
 else(
 some (.inl (wi64 (v+1)))))
 else(
 some (.inr (.inl ())))
def qa3(s:List (Int×Bool))(f:(Int×Bool)×Unit->Option Bool):Option (Int):=
 (iter (fun x=>qaq s f x) 0).bind fun s2=>
 s2.elim (fun s3=>
 some (-1))
 (fun s4=>
 some s4)
def qcs:Fun:=
 ⟨321,2,1,
 ⟨r99_,[],[]⟩,
 ⟨[(0,ii)],[],[]⟩,
 fun x=>qa3 x.1 x.2⟩
theorem qfh:FO qcs:=fi [] [] 19 [] ((nn (mm (nn (mm (.mk [] (some (⟨r32_,[],[]⟩,[⟨.x 0,⟨[],[],[]⟩⟩,⟨.r,⟨[(4,ii)],[],[]⟩⟩])) .nil .nil) .nil)) .nil))) func321 ⟨trivial,trivial⟩
def qaS(s:List (Int×Bool))(f:(Int×Bool)×Unit->Option Bool):Option (Bool):=
 (qa3 s f).bind fun r=>
 some (decide (0<=r))
def qbZ:Fun:=
 ⟨310,2,1,
 ⟨r99_,[],[]⟩,
 ⟨[(0,bb)],[],[]⟩,
 fun x=>qaS x.1 x.2⟩
theorem qee:FO qbZ:=fi [] [qcs] 9 [] .nil func310 ⟨⟨qfh,trivial⟩,trivial⟩
def qmO(n:yB0)(d:yB5)(x:yB8)(vby:Int):Option (Bool):=
 gd (inB x.1 d.2.2.1.length)<|
 gd (inB x.2.1 d.2.2.1.length)<|
 Option.bind (α:=Bool×List (Int×Int×Bool×Bool)×List Int×List Int×List Bool) (
 (qfn (wi64 ((n.2.1.length:Int)+x.1)) (d.1,d.2.1,d.2.2.1,d.2.2.2)).bind fun r=>
 bif !r then(
 some (true,(d.1,(d.2.1,(d.2.2.1,d.2.2.2)))))
 else(
 (qfn (wi64 ((n.2.1.length:Int)+x.2.1)) (d.1,d.2.1,d.2.2.1,d.2.2.2)).bind fun r2=>
 bif !r2 then(
 some (true,(d.1,(d.2.1,(d.2.2.1,d.2.2.2)))))
 else(
 bif decide (d.2.2.1.getD x.1.toNat 0<0) then(
 some (true,(d.1,(d.2.1,(d.2.2.1,d.2.2.2)))))
 else(
 bif decide (wi64 (0-(d.2.2.1.getD x.2.1.toNat 0))<0) then(
 some (true,(d.1,(d.2.1,(d.2.2.1,d.2.2.2)))))
 else(
 bif decide (wi64 ((d.2.2.1.getD x.1.toNat 0)+vby)<0) then(
 some (true,(d.1,(d.2.1,(d.2.2.1,d.2.2.2)))))
 else(
 some (decide (wi64 ((wi64 (0-(d.2.2.1.getD x.2.1.toNat 0)))+vby)<0),(d.1,(d.2.1,(d.2.2.1,d.2.2.2)))))))))) fun s=>
 bif s.1 then(
 some false)
 else(
 (qaS x.2.2.1 (fun h=>(qfo h.1 (d.1,d.2.1,d.2.2.1,d.2.2.2) s.2 vby).bind fun y=>some y)).bind fun r3=>
 some (!r3))
def qpa:Fun:=
 ⟨299,4,1,
 ⟨[(0,dd tT0),(1,dd (.pair (.sl tT1) tT6)),(2,dd (.pair I6 (.pair I6 (.pair (.sl (.pair I6 (.bool))) I6)))),(3,ii)],[],[]⟩,
 ⟨[(0,bb)],[],[]⟩,
 fun x=>qmO x.1 x.2.1 x.2.2.1 x.2.2.2⟩
theorem quk:FO qpa:=fi [] [qik,qbZ,ql0] 73 [] ((nn (mm (.mk [.fv [(5,.pair (.sl tT1) tT6)]] none .nil .nil) (nn (nn (mm (mm (.mk [.join [⟨.n,⟨[(5,kk),(6,pt 112 0),(7,pt 128 0),(9,pt 160 0),(67,bb)],[(112,55,kp 4),(128,3,[.keep]),(160,197,[.data (.clo 309 (.pair (.sl tT1) tT6))])],[]⟩⟩]] none .nil .nil) .nil) (mm (.mk [.fv [(9,.clo 309 (.pair (.sl tT1) tT6)),(7,.int .i64)]] none .nil .nil) .nil))))))) func299 ⟨⟨qlZ,qee,qr3,trivial⟩,trivial⟩
def qiX(h:Int×Bool)(rate:Int):Option (Int):=
 bif h.2 then(
 some (wi64 (0-rate)))
 else(
 some rate)
def ql1:Fun:=
 ⟨313,2,1,
 ⟨[(0,dd (.pair I6 (.bool))),(1,ii)],[],[]⟩,
 ⟨[(0,ii)],[],[]⟩,
 fun x=>qiX x.1 x.2⟩
theorem qr4:FO ql1:=fi [] [] 10 [] .nil func313 ⟨trivial,trivial⟩
def qdi(x:yB8)(rate:Int)(v:Int)(p5:yB4)(p6:List Int)(p7:List Int)(p8:List Bool):Option (yB10⊕(yB4×List Int×List Int×List Bool)):=
 bif decide (v<(x.2.2.1.length:Int)) then(
 gd (inB v x.2.2.1.length)<|
 gd (inB ((x.2.2.1.getD v.toNat (0,false)).1) p6.length)<|
 (qiX ((x.2.2.1.getD v.toNat (0,false)).1,(x.2.2.1.getD v.toNat (0,false)).2) rate).bind fun r=>
 gd (inB ((x.2.2.1.getD v.toNat (0,false)).1) p6.length)<|
 some (.inl (wi64 (v+1),p5,p6.set (((x.2.2.1.getD v.toNat (0,false)).1).toNat) (wi64 ((p6.getD (((x.2.2.1.getD v.toNat (0,false)).1).toNat) 0)+r)),p7,p8)))
 else(
 some (.inr (p5,p6,p7,p8)))
def qmP(x:yB8)(rate:Int)(p:yB4)(p2:List Int)(p3:List Int)(p4:List Bool):Option (yB4×List Int×List Int×List Bool):=
 gd (inB x.1 p3.length)<|
 gd (inB x.1 p3.length)<|
 gd (inB x.2.1 (p3.set x.1.toNat (wi64 ((p3.getD x.1.toNat 0)+rate))).length)<|
 gd (inB x.2.1 (p3.set x.1.toNat (wi64 ((p3.getD x.1.toNat 0)+rate))).length)<|
 (iter (fun x2=>qdi x rate x2.1 x2.2.1 x2.2.2.1 x2.2.2.2.1 x2.2.2.2.2) (0,p,p2,(p3.set x.1.toNat (wi64 ((p3.getD x.1.toNat 0)+rate))).set x.2.1.toNat (wi64 (((p3.set x.1.toNat (wi64 ((p3.getD x.1.toNat 0)+rate))).getD x.2.1.toNat 0)-rate)),p4)).bind fun s=>
 some (s.1,s.2.1,s.2.2.1,s.2.2.2)
def qpb:Fun:=
 ⟨300,3,0,
 ⟨[(0,pt 0 1),(1,dd (.pair I6 (.pair I6 (.pair (.sl (.pair I6 (.bool))) I6)))),(2,ii)],v6_,a1_⟩,
 ⟨[],v6_,a1_⟩,
 fun x=>qmP x.1 x.2.1 x.2.2.1 x.2.2.2.1 x.2.2.2.2.1 x.2.2.2.2.2⟩
theorem qul:FO qpb:=fi [] [ql1] 51 [] ((nn (nn (nn (nn (mm (.mk [] (some (⟨[(0,pt 0 1),(2,kk),(31,kk),(32,kk),(33,ii)],v6_,a1_⟩,[⟨.x 0,⟨[],v6_,a1_⟩⟩])) .nil .nil) .nil)))))) func300 ⟨⟨qr4,trivial⟩,trivial⟩
def qks(n:yB0)(s:yB6)(d:yB4)(d2:List Int)(d3:List Int)(d4:List Bool):Option yB10:=
 Option.bind (α:=Bool×yB4×List Int×List Int×List Bool) (
 bif decide (s.2.2.1<(-1000)) then(
 some (true,d,d2,d3,d4))
 else(
 some (decide (1000<s.2.2.1),d,d2,d3,d4))) fun s2=>
 bif s2.1 then(
 some (23,s2.2.1,s2.2.2.1,s2.2.2.2.1,s2.2.2.2.2))
 else(
 (qkr (n.1,n.2.1,n.2.2.1,n.2.2.2.1,n.2.2.2.2.1,n.2.2.2.2.2) (s.2.2.2.1,s.2.2.2.2.1,s.2.2.2.2.2.1,max s.2.2.1 (wi64 (0-s.2.2.1)))).bind fun r=>
 bif !r then(
 some (23,s2.2.1,s2.2.2.1,s2.2.2.2.1,s2.2.2.2.2))
 else(
 (qmO (n.1,n.2.1,n.2.2.1,n.2.2.2.1,n.2.2.2.2.1,n.2.2.2.2.2) (s2.2.1,s2.2.2.1,s2.2.2.2.1,s2.2.2.2.2) (s.2.2.2.1,s.2.2.2.2.1,s.2.2.2.2.2.1,max s.2.2.1 (wi64 (0-s.2.2.1))) s.2.2.1).bind fun r2=>
 bif !r2 then(
 some (22,s2.2.1,s2.2.2.1,s2.2.2.2.1,s2.2.2.2.2))
 else(
 (qmP (s.2.2.2.1,s.2.2.2.2.1,s.2.2.2.2.2.1,max s.2.2.1 (wi64 (0-s.2.2.1))) s.2.2.1 s2.2.1 s2.2.2.1 s2.2.2.2.1 s2.2.2.2.2).bind fun r3=>
 (qgf (n.1,n.2.1,n.2.2.1,n.2.2.2.1,n.2.2.2.2.1,n.2.2.2.2.2) (r3.2.1,r3.2.2.1,r3.2.2.2)).bind fun r4=>
 bif !decide (r4=0) then(
 some (r4,r3.1,r3.2.1,r3.2.2.1,r3.2.2.2))
 else(
 (qjJ (n.1,n.2.1,n.2.2.1,n.2.2.2.1,n.2.2.2.2.1,n.2.2.2.2.2) (r3.2.1,r3.2.2.1,r3.2.2.2)).bind fun r5=>
 bif r5 then(
 some (22,r3.1,r3.2.1,r3.2.2.1,r3.2.2.2))
 else(
 some (0,r3.1,r3.2.1,r3.2.2.1,r3.2.2.2))))))
def qnC:Fun:=
 ⟨278,3,1,
 ⟨r71_,v6_,a1_⟩,
 ⟨[(0,ii)],v6_,a1_⟩,
 fun x=>qks x.1 x.2.1 x.2.2.1 x.2.2.2.1 x.2.2.2.2.1 x.2.2.2.2.2⟩
theorem qsS:FO qnC:=fi [] [qnB,qpa,qpb,qfQ,qko] 61 [] ((nn (nn (mm (mm (.mk [.join [⟨.n,⟨[(1,pt 0 0),(3,pt 64 0),(5,pt 96 0),(7,pt 128 0),(18,bb)],[(0,44,[.own 1,.own 2,.own 3,.own 4]),(64,32,kp 6),(96,57,kp 7),(128,55,kp 4)],a1_⟩⟩]] none .nil .nil) .nil) .nil)))) func278 ⟨⟨qsR,quk,qul,qhP,qo4,trivial⟩,trivial⟩
def qp3(v:Int×Int×Bool×Bool):Option (Int):=
 bif v.2.2.1 then(
 some v.1)
 else(
 some 0)
def qpc:Fun:=
 ⟨322,1,1,
 ⟨[(0,dd tT1)],[],[]⟩,
 ⟨[(0,ii)],[],[]⟩,
 fun x=>qp3 x⟩
theorem qum:FO qpc:=fi [] [] 7 [] .nil func322 ⟨trivial,trivial⟩
def qkt(v:Int×Int×Bool×Bool)(ticks:Int):Option (Int×Int×Bool×Bool):=
 (qp3 (v.1,v.2.1,v.2.2.1,v.2.2.2)).bind fun r=>
 Option.bind (α:=Int) (
 bif v.2.2.2 then(
 some v.2.1)
 else(
 Option.bind (α:=Int) (
 bif decide (v.2.1<r) then(
 some (min r (wi64 (v.2.1+ticks))))
 else(
 some (max r (wi64 (v.2.1-ticks))))) fun s=>
 some s)) fun s2=>
 bif decide (v.1=v.1)&&(decide (s2=v.2.1)&&((v.2.2.1==v.2.2.1)&&(v.2.2.2==v.2.2.2))) then(
 some (v.1,(v.2.1,(v.2.2.1,v.2.2.2))))
 else(
 some (v.1,(s2,(v.2.2.1,v.2.2.2))))
def qnD:Fun:=
 ⟨314,2,1,
 ⟨r82_,[],[]⟩,
 ⟨[(0,dd tT1)],[],[]⟩,
 fun x=>qkt x.1 x.2⟩
theorem qsT:FO qnD:=fi [] [qpc] 37 [] ((nn (nn (mm (nn (mm (nn (.mk [.join [⟨.n,⟨[(2,pt 48 0),(4,pt 80 0),(5,pt 96 0)],v90_,[]⟩⟩]] none .nil (nn (.mk [.join [⟨.n,⟨[(2,pt 48 0),(4,pt 80 0),(5,pt 96 0)],v90_,[]⟩⟩]] none .nil .nil)))) .nil)) .nil)))) func314 ⟨⟨qum,trivial⟩,trivial⟩
def qmQ(v:Int×Int×Bool×Bool)(ticks:Int):Option ((Int×Int×Bool×Bool)×Int):=
 (qdS (v.1,v.2.1,v.2.2.1,v.2.2.2)).bind fun r=>
 bif !r then(
 some ((v.1,(v.2.1,(v.2.2.1,v.2.2.2))),20))
 else(
 Option.bind (α:=Bool) (
 bif decide (ticks<0) then(
 some true)
 else(
 some (decide (400<ticks)))) fun s=>
 bif s then(
 some ((v.1,(v.2.1,(v.2.2.1,v.2.2.2))),1))
 else(
 (qkt (v.1,v.2.1,v.2.2.1,v.2.2.2) ticks).bind fun r2=>
 some ((r2.1,(r2.2.1,(r2.2.2.1,r2.2.2.2))),0)))
def qpd:Fun:=
 ⟨301,2,2,
 ⟨r82_,[],[]⟩,
 ⟨r82_,[],[]⟩,
 fun x=>qmQ x.1 x.2⟩
theorem qun:FO qpd:=fi [] [qdz,qnD] 22 [] ((nn (mm (mm (nn (nn (mm (.mk [.join [⟨.n,⟨[(1,kk),(2,pt 48 0),(4,pt 80 0),(11,bb)],[(48,126,kp 4),(80,126,kp 4)],[]⟩⟩]] none .nil .nil) .nil))) .nil) .nil))) func301 ⟨⟨qew,qsT,trivial⟩,trivial⟩
def qdX(s:yB6)(s2:Bool×yB4×List Int×List Int×List Bool)(v2:Int)(d5:yB4)(d6:List Int)(d7:List Int)(d8:List Bool):Option (yB10⊕((yB4×List Int×List Int×List Bool)⊕yB10)):=
 bif decide (v2<(s2.2.1.length:Int)) then(
 gd (inB v2 d5.length)<|
 (qmQ ((d5.getD v2.toNat (0,0,false,false)).1,((d5.getD v2.toNat (0,0,false,false)).2).1,(((d5.getD v2.toNat (0,0,false,false)).2).2).1,(((d5.getD v2.toNat (0,0,false,false)).2).2).2) s.2.2.1).bind fun r=>
 bif !decide (r.2=0) then(
 some (.inr (.inr (r.2,d5,d6,d7,d8))))
 else(
 gd (inB v2 d5.length)<|
 some (.inl (wi64 (v2+1),d5.set v2.toNat (r.1.1,(r.1.2.1,(r.1.2.2.1,r.1.2.2.2))),d6,d7,d8))))
 else(
 some (.inr (.inl (d5,d6,d7,d8))))
def qpe(v:yB0)(s:yB6)(d:yB4)(d2:List Int)(d3:List Int)(d4:List Bool):Option yB10:=
 Option.bind (α:=Bool×yB4×List Int×List Int×List Bool) (
 bif decide (s.2.2.1<1) then(
 some (true,d,d2,d3,d4))
 else(
 some (decide (100<s.2.2.1),d,d2,d3,d4))) fun s2=>
 bif s2.1 then(
 some (1,s2.2.1,s2.2.2.1,s2.2.2.2.1,s2.2.2.2.2))
 else(
 (iter (fun x=>qdX s s2 x.1 x.2.1 x.2.2.1 x.2.2.2.1 x.2.2.2.2) (0,s2.2.1,s2.2.2.1,s2.2.2.2.1,s2.2.2.2.2)).bind fun s3=>
 s3.elim (fun s4=>
 some (0,s4.1,s4.2.1,s4.2.2.1,s4.2.2.2))
 (fun s5=>
 some (s5.1,s5.2.1,s5.2.2.1,s5.2.2.2.1,s5.2.2.2.2)))
def qqy:Fun:=
 ⟨279,3,1,
 ⟨r71_,v6_,a1_⟩,
 ⟨[(0,ii)],v6_,a1_⟩,
 fun x=>qpe x.1 x.2.1 x.2.2.1 x.2.2.2.1 x.2.2.2.2.1 x.2.2.2.2.2⟩
theorem qvM:FO qqy:=fi [] [qpd] 47 [] ((nn (mm (mm (.mk [.join [⟨.n,⟨[(1,pt 0 0),(5,pt 96 0),(18,bb)],v47_,a1_⟩⟩]] none .nil .nil) .nil) (mm (nn (mm (.mk [] (some (⟨[(1,pt 0 0),(5,pt 96 0),(22,ow 1),(23,kk),(24,ii)],v47_,a1_⟩,[⟨.x 0,⟨[],v6_,a1_⟩⟩,⟨.r,⟨[(6,ii)],v6_,a1_⟩⟩])) .nil .nil) .nil)) .nil)))) func279 ⟨⟨qun,trivial⟩,trivial⟩
def qmR(n:yB0)(s:yB6)(d:yB4)(d2:List Int)(d3:List Int)(d4:List Bool):Option yB10:=
 (qmL (s.1,s.2.1,s.2.2.1,s.2.2.2.1,s.2.2.2.2.1,s.2.2.2.2.2.1,s.2.2.2.2.2.2)).bind fun r=>
 bif !r then(
 some (22,d,d2,d3,d4))
 else(
 bif decide (s.1=0) then(gd (inB 0 7)<|
 none)
 else(
 bif decide (s.1=1) then(gd (inB 1 7)<|
 (qlY (n.1,n.2.1,n.2.2.1,n.2.2.2.1,n.2.2.2.2.1,n.2.2.2.2.2) (s.1,s.2.1,s.2.2.1,s.2.2.2.1,s.2.2.2.2.1,s.2.2.2.2.2.1,s.2.2.2.2.2.2) d d2 d3 d4).bind fun r2=>
 some (r2.1,r2.2.1,r2.2.2.1,r2.2.2.2.1,r2.2.2.2.2))
 else(
 bif decide (s.1=2) then(gd (inB 2 7)<|
 (qlY (n.1,n.2.1,n.2.2.1,n.2.2.2.1,n.2.2.2.2.1,n.2.2.2.2.2) (s.1,s.2.1,s.2.2.1,s.2.2.2.1,s.2.2.2.2.1,s.2.2.2.2.2.1,s.2.2.2.2.2.2) d d2 d3 d4).bind fun r3=>
 some (r3.1,r3.2.1,r3.2.2.1,r3.2.2.2.1,r3.2.2.2.2))
 else(
 bif decide (s.1=3) then(gd (inB 3 7)<|
 (qo7 (n.1,n.2.1,n.2.2.1,n.2.2.2.1,n.2.2.2.2.1,n.2.2.2.2.2) (s.1,s.2.1,s.2.2.1,s.2.2.2.1,s.2.2.2.2.1,s.2.2.2.2.2.1,s.2.2.2.2.2.2) d d2 d3 d4).bind fun r4=>
 some (r4.1,r4.2.1,r4.2.2.1,r4.2.2.2.1,r4.2.2.2.2))
 else(
 bif decide (s.1=4) then(gd (inB 4 7)<|
 (qo7 (n.1,n.2.1,n.2.2.1,n.2.2.2.1,n.2.2.2.2.1,n.2.2.2.2.2) (s.1,s.2.1,s.2.2.1,s.2.2.2.1,s.2.2.2.2.1,s.2.2.2.2.2.1,s.2.2.2.2.2.2) d d2 d3 d4).bind fun r5=>
 some (r5.1,r5.2.1,r5.2.2.1,r5.2.2.2.1,r5.2.2.2.2))
 else(
 bif decide (s.1=5) then(gd (inB 5 7)<|
 (qks (n.1,n.2.1,n.2.2.1,n.2.2.2.1,n.2.2.2.2.1,n.2.2.2.2.2) (s.1,s.2.1,s.2.2.1,s.2.2.2.1,s.2.2.2.2.1,s.2.2.2.2.2.1,s.2.2.2.2.2.2) d d2 d3 d4).bind fun r6=>
 some (r6.1,r6.2.1,r6.2.2.1,r6.2.2.2.1,r6.2.2.2.2))
 else(
 bif decide (s.1=6) then(gd (inB 6 7)<|
 (qpe (n.1,n.2.1,n.2.2.1,n.2.2.2.1,n.2.2.2.2.1,n.2.2.2.2.2) (s.1,s.2.1,s.2.2.1,s.2.2.2.1,s.2.2.2.2.1,s.2.2.2.2.2.1,s.2.2.2.2.2.2) d d2 d3 d4).bind fun r7=>
 some (r7.1,r7.2.1,r7.2.2.1,r7.2.2.2.1,r7.2.2.2.2))
 else(
 none))))))))
def qpf:Fun:=
 ⟨247,3,1,
 ⟨r71_,v6_,a1_⟩,
 ⟨[(0,ii)],v6_,a1_⟩,
 fun x=>qmR x.1 x.2.1 x.2.2.1 x.2.2.2.1 x.2.2.2.2.1 x.2.2.2.2.2⟩
theorem qup:FO qpf:=fi [4000014] [qo6,qqx,qr2,qnC,qqy] 20 [] .nil func247 ⟨⟨quh,qvL,qwU,qsS,qvM,trivial⟩,trivial⟩
def qmS(n:yB0)(d:yB5)(s:yB6):Option yB10:=
 (qmK (n.1,n.2.1,n.2.2.1,n.2.2.2.1,n.2.2.2.2.1,n.2.2.2.2.2) (d.1,d.2.1,d.2.2.1,d.2.2.2)).bind fun r=>
 bif !decide (r=0) then(
 (qid (d.1,d.2.1,d.2.2.1,d.2.2.2)).bind fun r2=>
 some (r,r2.1,r2.2.1,r2.2.2.1,r2.2.2.2))
 else(
 (qid (d.1,d.2.1,d.2.2.1,d.2.2.2)).bind fun r3=>
 (qmR (n.1,n.2.1,n.2.2.1,n.2.2.2.1,n.2.2.2.2.1,n.2.2.2.2.2) (s.1,s.2.1,s.2.2.1,s.2.2.2.1,s.2.2.2.2.1,s.2.2.2.2.2.1,s.2.2.2.2.2.2) r3.1 r3.2.1 r3.2.2.1 r3.2.2.2).bind fun r4=>
 bif !decide (r4.1=0) then(
 (qid (d.1,d.2.1,d.2.2.1,d.2.2.2)).bind fun r5=>
 some (r4.1,r5.1,r5.2.1,r5.2.2.1,r5.2.2.2))
 else(
 some (0,r4.2.1,r4.2.2.1,r4.2.2.2.1,r4.2.2.2.2)))
def qpg:Fun:=
 ⟨198,3,2,
 ⟨r56_,[],[]⟩,
 ⟨[(0,.agg [.own 0,.own 1,.own 2,.own 3]),(1,ii)],[],a59_⟩,
 fun x=>qmS x.1 x.2.1 x.2.2⟩
theorem quq:FO qpg:=fi [] [qo5,qlR,qpf] 30 [] .nil func198 ⟨⟨qug,qqu,qup,trivial⟩,trivial⟩
def qgw(n:yB0)(r:yB1)(c:Int)(c2:yB4)(c3:List Int)(c4:List Int)(c5:List Bool)(c6:List yB3)(c7:List yB2):Option (Int×Int×yB4×List Int×List Int×List Bool×(List yB3)×List yB2):=
 Option.bind (α:=yB13) (
 bif decide (0<(r.2.1.length:Int)) then(
 some (true,c2,c3,c4,c5,c6,c7))
 else(
 some ((!(decide (r.2.2.2.1=[])&&(decide (r.2.2.2.2.1=0)&&decide (r.2.2.2.2.2=0)))),c2,c3,c4,c5,c6,c7))) fun s=>
 bif s.1 then(
 some (28,c,s.2.1,s.2.2.1,s.2.2.2.1,s.2.2.2.2.1,s.2.2.2.2.2.1,s.2.2.2.2.2.2))
 else(
 (qmS (n.1,n.2.1,n.2.2.1,n.2.2.2.1,n.2.2.2.2.1,n.2.2.2.2.2) (s.2.1,s.2.2.1,s.2.2.2.1,s.2.2.2.2.1) (r.2.2.1.1,r.2.2.1.2.1,r.2.2.1.2.2.1,r.2.2.1.2.2.2.1,r.2.2.1.2.2.2.2.1,r.2.2.1.2.2.2.2.2.1,r.2.2.1.2.2.2.2.2.2)).bind fun r2=>
 some (r2.1,c,r2.2.1,r2.2.2.1,r2.2.2.2.1,r2.2.2.2.2,s.2.2.2.2.2.1,s.2.2.2.2.2.2))
def qjK:Fun:=
 ⟨107,3,1,
 ⟨r50_,v66_,a8_⟩,
 ⟨[(0,ii)],v61_,a28_⟩,
 fun x=>qgw x.1 x.2.1 x.2.2.1 x.2.2.2.1 x.2.2.2.2.1 x.2.2.2.2.2.1 x.2.2.2.2.2.2.1 x.2.2.2.2.2.2.2.1 x.2.2.2.2.2.2.2.2⟩
theorem qp4:FO qjK:=fi [] [qpg] 35 [] ((nn (mm (mm (.mk [.join [⟨.n,⟨[(1,pt 0 0),(3,pt 64 0),(5,pt 96 0),(18,bb)],[(0,48,[.own 1,.own 2,.own 3,.own 4,.own 5,.own 6,.keep]),(64,32,kp 6),(96,61,kp 12)],a8_⟩⟩]] none .nil .nil) .nil) .nil))) func107 ⟨⟨quq,trivial⟩,trivial⟩
def qct(n:Int):Option (Bool):=
 bif decide (0<=n) then(
 some (decide (n<=1099511627776)))
 else(
 some false)
def qfS:Fun:=
 ⟨211,1,1,
 ⟨[(0,ii)],[],[]⟩,
 ⟨[(0,bb)],[],[]⟩,
 fun x=>qct x⟩
theorem qiY:FO qfS:=fi [] [] 9 [] .nil func211 ⟨trivial,trivial⟩
def qdY(n:Int):Option (Bool):=
 bif decide ((-1099511627776)<=n) then(
 some (decide (n<=1099511627776)))
 else(
 some false)
def qfT:Fun:=
 ⟨212,1,1,
 ⟨[(0,ii)],[],[]⟩,
 ⟨[(0,bb)],[],[]⟩,
 fun x=>qdY x⟩
theorem qiZ:FO qfT:=fi [] [] 9 [] .nil func212 ⟨trivial,trivial⟩
def qcN(a:yB2):Option (Bool):=
 (qct a.2.1).bind fun r=>
 bif r then(
 (qct a.2.2.1).bind fun r2=>
 bif r2 then(
 (qct a.2.2.2.1).bind fun r3=>
 bif r3 then(
 (qdY a.2.2.2.2).bind fun r4=>
 some r4)
 else(
 some false))
 else(
 some false))
 else(
 some false)
def qhp:Fun:=
 ⟨130,1,1,
 ⟨[(0,dd tT4)],[],[]⟩,
 ⟨[(0,bb)],[],[]⟩,
 fun x=>qcN x⟩
theorem qk9:FO qhp:=fi [] [qfS,qfT] 21 [] .nil func130 ⟨⟨qiY,qiZ,trivial⟩,trivial⟩
def qdv(l:List yB2)(v:Int):Option (Int⊕(Unit⊕Bool)):=
 bif decide (v<(l.length:Int)) then(
 gd (inB v l.length)<|
 Option.bind (α:=Bool) (
 (qcN ((l.getD v.toNat ([],0,0,0,0)).1,((l.getD v.toNat ([],0,0,0,0)).2).1,(((l.getD v.toNat ([],0,0,0,0)).2).2).1,((((l.getD v.toNat ([],0,0,0,0)).2).2).2).1,((((l.getD v.toNat ([],0,0,0,0)).2).2).2).2)).bind fun r=>
 bif !r then(
 some true)
 else(
 (qcz ((l.getD v.toNat ([],0,0,0,0)).1)).bind fun r2=>
 bif !r2 then(
 some true)
 else(
 bif decide (0<v) then(
 gd (inB (wi64 (v-1)) l.length)<|
 some (Op.bytesLess ((l.getD v.toNat ([],(0,(0,(0,0))))).1) ((l.getD (wi64 (v-1)).toNat ([],(0,(0,(0,0))))).1) || decide ((l.getD v.toNat ([],(0,(0,(0,0))))).1=(l.getD (wi64 (v-1)).toNat ([],(0,(0,(0,0))))).1)))
 else(
 some false)))) fun s=>
 bif s then(
 some (.inr (.inr false)))
 else(
 some (.inl (wi64 (v+1)))))
 else(
 some (.inr (.inl ())))
def qhS(l:List yB2):Option (Bool):=
 (iter (fun x=>qdv l x) 0).bind fun s2=>
 s2.elim (fun s3=>
 some (decide ((l.length:Int)<=64)))
 (fun s4=>
 some s4)
def qla:Fun:=
 ⟨56,1,1,
 ⟨[(0,dd (.sl tT4))],[],[]⟩,
 ⟨[(0,bb)],[],[]⟩,
 fun x=>qhS x⟩
theorem qqR:FO qla:=fi [] [qhp,qfu] 40 [] ((nn (mm (nn (mm (.mk [] (some (⟨[(0,kk),(5,kk),(6,kk),(7,ii)],[],[]⟩,[⟨.x 0,⟨[(0,kk)],[],[]⟩⟩,⟨.r,⟨[(2,bb)],[],[]⟩⟩])) (nn (nn (mm (mm (nn (mm (.mk [.join [⟨.n,⟨[(0,kk),(5,kk),(6,kk),(7,kk),(35,bb)],[],[]⟩⟩]] none .nil .nil) .nil)) .nil) .nil))) .nil) .nil)) .nil))) func56 ⟨⟨qk9,qhH,trivial⟩,trivial⟩
def qeA(e:List UInt8×Int×Int):Option (Bool):=
 Option.bind (α:=Bool) (
 bif decide (e.2.1=1) then(
 some (decide (e.2.1=1)))
 else(
 Option.bind (α:=Bool) (
 bif decide (e.2.1=2) then(
 some (decide (e.2.1=2)))
 else(
 some (decide (e.2.1=3)))) fun s=>
 some s)) fun s2=>
 bif s2 then(
 (qct e.2.2).bind fun r=>
 bif r then(
 (qcz e.1).bind fun r2=>
 some r2)
 else(
 some false))
 else(
 bif decide (e.2.1=4) then(
 (qdY e.2.2).bind fun r3=>
 bif r3 then(
 (qcz e.1).bind fun r4=>
 some r4)
 else(
 some false))
 else(
 some false))
def qjL:Fun:=
 ⟨248,1,1,
 ⟨[(0,dd tT7)],[],[]⟩,
 ⟨[(0,bb)],[],[]⟩,
 fun x=>qeA x⟩
theorem qp5:FO qjL:=fi [] [qfS,qfu,qfT] 27 [] ((nn (mm (nn (mm (mm (nn (.mk [.join [⟨.n,⟨r94_,v88_,[]⟩⟩]] none .nil (nn (.mk [.join [⟨.n,⟨r94_,v88_,[]⟩⟩]] none .nil .nil)))) .nil) .nil)) .nil))) func248 ⟨⟨qiY,qhH,qiZ,trivial⟩,trivial⟩
def qat(x:List yB2)(target:List UInt8)(cmp:yB2×List UInt8×Unit->Option Int)(i:Int)(j:Int):Option ((Int×Int)⊕Int):=
 bif decide (i<j) then(
 gd (inB (wi64 (Int.fdiv (wu64 (wi64 (i+j))) (2^shAmt .u64 1))) x.length)<|
 (cmp (x.getD (wi64 (Int.fdiv (wu64 (wi64 (i+j))) (2^shAmt .u64 1))).toNat ([],0,0,0,0),target,())).bind fun r=>
 bif decide (r<0) then(
 some (.inl (wi64 ((wi64 (Int.fdiv (wu64 (wi64 (i+j))) (2^shAmt .u64 1)))+1),j)))
 else(
 some (.inl (i,wi64 (Int.fdiv (wu64 (wi64 (i+j))) (2^shAmt .u64 1))))))
 else(
 some (.inr i))
def qaA(x:List yB2)(target:List UInt8)(cmp:yB2×List UInt8×Unit->Option Int):Option (Int×Bool):=
 (iter (fun x2=>qat x target cmp x2.1 x2.2) (0,(x.length:Int))).bind fun s=>
 bif decide (s<(x.length:Int)) then(
 gd (inB s x.length)<|
 (cmp (x.getD s.toNat ([],0,0,0,0),target,())).bind fun r2=>
 some (s,decide (r2=0)))
 else(
 some (s,false))
def qaO:Fun:=
 ⟨280,3,2,
 ⟨[(0,dd (.sl tT4)),(1,ss),(2,.one (.fn [.pair (.str) (.pair I6 (.pair I6 (.pair I6 I6))),.str] I6))],[],[]⟩,
 ⟨[(0,ii),(1,bb)],[],[]⟩,
 fun x=>qaA x.1 x.2.1 x.2.2⟩
theorem qbS:FO qaO:=fi [] [] 49 [] ((nn (nn (nn (mm (mm (.mk [] (some (⟨r133_,[],[]⟩,[⟨.x 0,⟨[(0,kk),(1,kk),(2,kk),(8,kk),(9,ii)],[],[]⟩⟩])) .nil .nil) .nil) .nil))))) func280 ⟨trivial,trivial⟩
def qc9(a:List UInt8)(b:List UInt8):Option (Int):=
 (qC0 a b).bind fun r=>
 some r
def qcO:Fun:=
 ⟨302,2,1,
 ⟨r52_,[],[]⟩,
 ⟨[(0,ii)],[],[]⟩,
 fun x=>qc9 x.1 x.2⟩
theorem qfU:FO qcO:=fi [] [] 8 [xt315] .nil func302 ⟨trivial,⟨xk315,trivial⟩⟩
def ql2(a:List UInt8)(b:List UInt8):Option (Int):=
 (qc9 a b).bind fun r=>
 some r
def qi0:Fun:=
 ⟨282,2,1,
 ⟨r52_,[],[]⟩,
 ⟨[(0,ii)],[],[]⟩,
 fun x=>ql2 x.1 x.2⟩
theorem qph:FO qi0:=fi [] [qcO] 8 [] .nil func282 ⟨⟨qfU,trivial⟩,trivial⟩
def qeB(a:yB2)(s:List UInt8):Option (Int):=
 (ql2 a.1 s).bind fun r=>
 some r
def qjM:Fun:=
 ⟨281,2,1,
 ⟨[(0,dd tT4),(1,ss)],[],[]⟩,
 ⟨[(0,ii)],[],[]⟩,
 fun x=>qeB x.1 x.2⟩
theorem qp6:FO qjM:=fi [] [qi0] 9 [] .nil func281 ⟨⟨qph,trivial⟩,trivial⟩
def qi1(l:List yB2)(shipper:List UInt8):Option (Int×Bool):=
 (qaA l shipper (fun h=>(qeB h.1 h.2.1).bind fun y=>some y)).bind fun r=>
 some (r.1,r.2)
def ql3:Fun:=
 ⟨249,2,2,
 ⟨[(0,dd (.sl tT4)),(1,ss)],[],[]⟩,
 ⟨[(0,ii),(1,bb)],[],[]⟩,
 fun x=>qi1 x.1 x.2⟩
theorem qr5:FO ql3:=fi [] [qaO,qjM] 11 [] .nil func249 ⟨⟨qbS,qp6,trivial⟩,trivial⟩
def qdA(a:yB2)(e:List UInt8×Int×Int):Option yB2:=
 Option.bind (α:=Int×Int×Int×Int) (
 bif decide (e.2.1=1) then(
 some (wi64 (a.2.1+e.2.2),a.2.2.1,a.2.2.2.1,a.2.2.2.2))
 else(
 Option.bind (α:=Int×Int×Int) (
 bif decide (e.2.1=2) then(
 some (wi64 (a.2.2.1+e.2.2),a.2.2.2.1,a.2.2.2.2))
 else(
 Option.bind (α:=Int×Int) (
 bif decide (e.2.1=3) then(
 some (wi64 (a.2.2.2.1+e.2.2),a.2.2.2.2))
 else(
 Option.bind (α:=Int) (
 bif decide (e.2.1=4) then(
 some (wi64 (a.2.2.2.2+e.2.2)))
 else(
 some a.2.2.2.2)) fun s=>
 some (a.2.2.2.1,s))) fun s2=>
 some (a.2.2.1,s2.1,s2.2))) fun s3=>
 some (a.2.1,s3.1,s3.2.1,s3.2.2))) fun s4=>
 some (a.1,s4.1,s4.2.1,s4.2.2.1,s4.2.2.2)
def qjN:Fun:=
 ⟨250,2,1,
 ⟨[(0,dd tT4),(1,dd tT7)],[],[]⟩,
 ⟨[(0,dd tT4)],[],[]⟩,
 fun x=>qdA x.1 x.2⟩
theorem qp7:FO qjN:=fi [] [] 40 [] ((nn (mm (nn (mm (nn (.mk [.join [⟨.n,⟨r112_,[(48,140,[.keep,.data I6,.data I6,.data I6,.data I6]),(80,140,kp 5)],[]⟩⟩]] none .nil (nn (.mk [.join [⟨.n,⟨r112_,[(48,140,[.keep,.keep,.data I6,.data I6,.data I6]),(80,140,kp 5)],[]⟩⟩]] none .nil (nn (.mk [.join [⟨.n,⟨r112_,[(48,140,[.keep,.keep,.keep,.data I6,.data I6]),(80,140,kp 5)],[]⟩⟩]] none .nil (nn (.mk [.join [⟨.n,⟨r112_,[(48,140,[.keep,.keep,.keep,.keep,.data I6]),(80,140,kp 5)],[]⟩⟩]] none .nil .nil)))))))) .nil)) .nil))) func250 ⟨trivial,trivial⟩
def qg8(l:List yB2)(e:List UInt8×Int×Int):Option (Int×List yB2):=
 (qaj l).bind fun r=>
 Option.bind (α:=Bool×List yB2) (
 (qhS l).bind fun r2=>
 bif !r2 then(
 some (true,r))
 else(
 (qeA (e.1,e.2.1,e.2.2)).bind fun r3=>
 some ((!r3),r))) fun s=>
 bif s.1 then(
 some (27,s.2))
 else(
 (qi1 l e.1).bind fun r4=>
 Option.bind (α:=List UInt8×Int×Int×Int×Int×List yB2) (
 bif r4.2 then(
 gd (inB r4.1 l.length)<|
 some ((l.getD r4.1.toNat ([],(0,(0,(0,0))))).1,((l.getD r4.1.toNat ([],(0,(0,(0,0))))).2).1,(((l.getD r4.1.toNat ([],(0,(0,(0,0))))).2).2).1,((((l.getD r4.1.toNat ([],(0,(0,(0,0))))).2).2).2).1,((((l.getD r4.1.toNat ([],(0,(0,(0,0))))).2).2).2).2,s.2))
 else(
 some (e.1,0,0,0,0,s.2))) fun s2=>
 (qdA (s2.1,s2.2.1,s2.2.2.1,s2.2.2.2.1,s2.2.2.2.2.1) (e.1,e.2.1,e.2.2)).bind fun r5=>
 Option.bind (α:=Bool×List yB2) (
 (qcN (r5.1,r5.2.1,r5.2.2.1,r5.2.2.2.1,r5.2.2.2.2)).bind fun r6=>
 bif !r6 then(
 some (true,s2.2.2.2.2.2))
 else(
 bif !r4.2 then(
 some (decide ((l.length:Int)=64),s2.2.2.2.2.2))
 else(
 some (false,s2.2.2.2.2.2)))) fun s3=>
 bif s3.1 then(
 some (4,s3.2))
 else(
 bif r4.2 then(
 gd (inB r4.1 s3.2.length)<|
 some (0,s3.2.set r4.1.toNat (r5.1,(r5.2.1,(r5.2.2.1,(r5.2.2.2.1,r5.2.2.2.2))))))
 else(
 gd (decide (r4.1=r4.1)&&cutG none (some (.i64,r4.1)) s3.2.length)<|
 gd (fits ((s3.2.take r4.1.toNat).length+1) 48)<|
 gd (cutG (some (.i64,r4.1)) none l.length)<|
 gd (fits (((s3.2.take r4.1.toNat)++[(r5.1,r5.2.1,r5.2.2.1,r5.2.2.2.1,r5.2.2.2.2)]).length+(l.drop r4.1.toNat).length) 48)<|
 some (0,((s3.2.take r4.1.toNat)++[(r5.1,(r5.2.1,(r5.2.2.1,(r5.2.2.2.1,r5.2.2.2.2))))])++(l.drop r4.1.toNat)))))
def ql4:Fun:=
 ⟨199,2,2,
 ⟨[(0,dd (.sl tT4)),(1,dd tT7)],[],[]⟩,
 ⟨[(0,ow 0),(1,ii)],[],[(0,.arr 140 tT4)]⟩,
 fun x=>qg8 x.1 x.2⟩
theorem qr6:FO ql4:=fi [61] [qa4,qla,qjL,ql3,qjN,qhp] 69 [] ((nn (nn (mm (mm (.mk [.join [⟨.n,⟨[(0,kk),(3,pt 64 0),(6,ow 192),(19,bb)],v55_,[(192,.arr 140 tT4)]⟩⟩]] none .nil .nil) .nil) (nn (nn (mm (nn (.mk [.join [⟨.n,⟨[(0,kk),(3,pt 64 0),(6,ow 192),(7,kk),(8,kk),(9,pt 160 0)],[(64,59,[.keep,.keep,.keep]),(160,140,[.data (.str),.data I6,.data I6,.data I6,.data I6])],[(192,.arr 140 tT4)]⟩⟩]] none .nil .nil)) (mm (nn (mm (.mk [.join [⟨.n,⟨[(0,kk),(6,ow 192),(7,kk),(8,kk),(9,pt 160 0),(50,bb)],[(160,140,kp 5)],[(192,.arr 140 tT4)]⟩⟩]] none .nil .nil) .nil)) (nn (mm (.mk [.fz [6]] none .nil .nil) .nil)))))))))) func199 ⟨⟨qbQ,qqR,qp5,qr5,qp7,qk9,trivial⟩,trivial⟩
def qku(v:yB0)(r:yB1)(c:Int)(c2:yB4)(c3:List Int)(c4:List Int)(c5:List Bool)(c6:List yB3)(c7:List yB2):Option (Int×Int×yB4×List Int×List Int×List Bool×(List yB3)×List yB2):=
 Option.bind (α:=yB13) (
 bif decide (0<(r.2.1.length:Int)) then(
 some (true,c2,c3,c4,c5,c6,c7))
 else(
 (qfO (r.2.2.1.1,r.2.2.1.2.1,r.2.2.1.2.2.1,r.2.2.1.2.2.2.1,r.2.2.1.2.2.2.2.1,r.2.2.1.2.2.2.2.2.1,r.2.2.1.2.2.2.2.2.2)).bind fun r2=>
 some ((!r2),c2,c3,c4,c5,c6,c7))) fun s=>
 bif s.1 then(
 some (28,c,s.2.1,s.2.2.1,s.2.2.2.1,s.2.2.2.2.1,s.2.2.2.2.2.1,s.2.2.2.2.2.2))
 else(
 (qg8 s.2.2.2.2.2.2 (r.2.2.2.1,r.2.2.2.2.1,r.2.2.2.2.2)).bind fun r3=>
 some (r3.1,c,s.2.1,s.2.2.1,s.2.2.2.1,s.2.2.2.2.1,s.2.2.2.2.2.1,r3.2))
def qnE:Fun:=
 ⟨108,3,1,
 ⟨r50_,v66_,a8_⟩,
 ⟨[(0,ii)],v61_,a28_⟩,
 fun x=>qku x.1 x.2.1 x.2.2.1 x.2.2.2.1 x.2.2.2.2.1 x.2.2.2.2.2.1 x.2.2.2.2.2.2.1 x.2.2.2.2.2.2.2.1 x.2.2.2.2.2.2.2.2⟩
theorem qsU:FO qnE:=fi [] [qho,ql4] 34 [] ((nn (mm (mm (.mk [.join [⟨.n,⟨[(1,pt 0 0),(5,pt 96 0),(18,bb)],v85_,a8_⟩⟩]] none .nil .nil) .nil) .nil))) func108 ⟨⟨qk3,qr6,trivial⟩,trivial⟩
def qdZ(n:yB0)(c:yB11)(r:yB1):Option (yB11×Int):=
 bif decide (c.2.2.2=1000) then(
 (qdg ((c.1.1,c.1.2.1,c.1.2.2.1,c.1.2.2.2),c.2.1,c.2.2.1,c.2.2.2)).bind fun r2=>
 some (((r2.2.1,(r2.2.2.1,(r2.2.2.2.1,r2.2.2.2.2.1))),(r2.2.2.2.2.2.1,(r2.2.2.2.2.2.2,r2.1))),4))
 else(
 bif !((mget keyI (mput keyI (mput keyI (mput keyI [] 1 1) 2 2) 3 3) r.1).isSome) then(
 (qdg ((c.1.1,c.1.2.1,c.1.2.2.1,c.1.2.2.2),c.2.1,c.2.2.1,c.2.2.2)).bind fun r3=>
 some (((r3.2.1,(r3.2.2.1,(r3.2.2.2.1,r3.2.2.2.2.1))),(r3.2.2.2.2.2.1,(r3.2.2.2.2.2.2,r3.1))),28))
 else(
 (qdg ((c.1.1,c.1.2.1,c.1.2.2.1,c.1.2.2.2),c.2.1,c.2.2.1,c.2.2.2)).bind fun r4=>
 bif decide ((mget keyI (mput keyI (mput keyI (mput keyI [] 1 1) 2 2) 3 3) r.1).getD 0=1) then(
 (qhN (n.1,n.2.1,n.2.2.1,n.2.2.2.1,n.2.2.2.2.1,n.2.2.2.2.2) (r.1,r.2.1,(r.2.2.1.1,r.2.2.1.2.1,r.2.2.1.2.2.1,r.2.2.1.2.2.2.1,r.2.2.1.2.2.2.2.1,r.2.2.1.2.2.2.2.2.1,r.2.2.1.2.2.2.2.2.2),r.2.2.2.1,r.2.2.2.2.1,r.2.2.2.2.2) r4.1 r4.2.1 r4.2.2.1 r4.2.2.2.1 r4.2.2.2.2.1 r4.2.2.2.2.2.1 r4.2.2.2.2.2.2).bind fun r5=>
 bif !decide (r5.1=0) then(
 (qdg ((c.1.1,c.1.2.1,c.1.2.2.1,c.1.2.2.2),c.2.1,c.2.2.1,c.2.2.2)).bind fun r6=>
 some (((r6.2.1,(r6.2.2.1,(r6.2.2.2.1,r6.2.2.2.2.1))),(r6.2.2.2.2.2.1,(r6.2.2.2.2.2.2,r6.1))),r5.1))
 else(
 some (((r5.2.2.1,(r5.2.2.2.1,(r5.2.2.2.2.1,r5.2.2.2.2.2.1))),(r5.2.2.2.2.2.2.1,(r5.2.2.2.2.2.2.2,wi64 (r5.2.1+1)))),0)))
 else(
 bif decide ((mget keyI (mput keyI (mput keyI (mput keyI [] 1 1) 2 2) 3 3) r.1).getD 0=2) then(
 (qgw (n.1,n.2.1,n.2.2.1,n.2.2.2.1,n.2.2.2.2.1,n.2.2.2.2.2) (r.1,r.2.1,(r.2.2.1.1,r.2.2.1.2.1,r.2.2.1.2.2.1,r.2.2.1.2.2.2.1,r.2.2.1.2.2.2.2.1,r.2.2.1.2.2.2.2.2.1,r.2.2.1.2.2.2.2.2.2),r.2.2.2.1,r.2.2.2.2.1,r.2.2.2.2.2) r4.1 r4.2.1 r4.2.2.1 r4.2.2.2.1 r4.2.2.2.2.1 r4.2.2.2.2.2.1 r4.2.2.2.2.2.2).bind fun r7=>
 bif !decide (r7.1=0) then(
 (qdg ((c.1.1,c.1.2.1,c.1.2.2.1,c.1.2.2.2),c.2.1,c.2.2.1,c.2.2.2)).bind fun r8=>
 some (((r8.2.1,(r8.2.2.1,(r8.2.2.2.1,r8.2.2.2.2.1))),(r8.2.2.2.2.2.1,(r8.2.2.2.2.2.2,r8.1))),r7.1))
 else(
 some (((r7.2.2.1,(r7.2.2.2.1,(r7.2.2.2.2.1,r7.2.2.2.2.2.1))),(r7.2.2.2.2.2.2.1,(r7.2.2.2.2.2.2.2,wi64 (r7.2.1+1)))),0)))
 else(
 bif decide ((mget keyI (mput keyI (mput keyI (mput keyI [] 1 1) 2 2) 3 3) r.1).getD 0=3) then(
 (qku (n.1,n.2.1,n.2.2.1,n.2.2.2.1,n.2.2.2.2.1,n.2.2.2.2.2) (r.1,r.2.1,(r.2.2.1.1,r.2.2.1.2.1,r.2.2.1.2.2.1,r.2.2.1.2.2.2.1,r.2.2.1.2.2.2.2.1,r.2.2.1.2.2.2.2.2.1,r.2.2.1.2.2.2.2.2.2),r.2.2.2.1,r.2.2.2.2.1,r.2.2.2.2.2) r4.1 r4.2.1 r4.2.2.1 r4.2.2.2.1 r4.2.2.2.2.1 r4.2.2.2.2.2.1 r4.2.2.2.2.2.2).bind fun r9=>
 bif !decide (r9.1=0) then(
 (qdg ((c.1.1,c.1.2.1,c.1.2.2.1,c.1.2.2.2),c.2.1,c.2.2.1,c.2.2.2)).bind fun r10=>
 some (((r10.2.1,(r10.2.2.1,(r10.2.2.2.1,r10.2.2.2.2.1))),(r10.2.2.2.2.2.1,(r10.2.2.2.2.2.2,r10.1))),r9.1))
 else(
 some (((r9.2.2.1,(r9.2.2.2.1,(r9.2.2.2.2.1,r9.2.2.2.2.2.1))),(r9.2.2.2.2.2.2.1,(r9.2.2.2.2.2.2.2,wi64 (r9.2.1+1)))),0)))
 else(
 none)))))
def ql5:Fun:=
 ⟨44,3,2,
 ⟨r36_,[],[]⟩,
 ⟨r26_,[],[]⟩,
 fun x=>qdZ x.1 x.2.1 x.2.2⟩
theorem qr7:FO ql5:=fi [4000036] [qnv,qk6,qjK,qnE] 47 [] .nil func44 ⟨⟨qsO,qqO,qp4,qsU,trivial⟩,trivial⟩
def qdB(n:yB0)(r:(List yB1)×Int×Int)(v:Int)(v2:yB4)(v3:List Int)(v4:List Int)(v5:List Bool)(v6:List yB3)(v7:List yB2)(v8:Int)(c:yB4)(c2:List Int)(c3:List Int)(c4:List Bool)(c5:List yB3)(c6:List yB2)(c7:Int):Option ((Int×yB4×List Int×List Int×List Bool×(List yB3)×(List yB2)×Int×yB4×List Int×List Int×List Bool×(List yB3)×(List yB2)×Int)⊕((yB4×List Int×List Int×List Bool×(List yB3)×(List yB2)×Int×yB4×List Int×List Int×List Bool×(List yB3)×(List yB2)×Int)⊕(Int×Int×yB4×List Int×List Int×List Bool×(List yB3)×(List yB2)×Int))):=
 bif decide (v<(r.1.length:Int)) then(
 gd (inB v r.1.length)<|
 (qdZ (n.1,n.2.1,n.2.2.1,n.2.2.2.1,n.2.2.2.2.1,n.2.2.2.2.2) ((c,c2,c3,c4),c5,c6,c7) ((r.1.getD v.toNat (0,[],(0,0,0,0,0,[],0),[],0,0)).1,((r.1.getD v.toNat (0,[],(0,0,0,0,0,[],0),[],0,0)).2).1,(((((r.1.getD v.toNat (0,[],(0,0,0,0,0,[],0),[],0,0)).2).2).1).1,(((((r.1.getD v.toNat (0,[],(0,0,0,0,0,[],0),[],0,0)).2).2).1).2).1,((((((r.1.getD v.toNat (0,[],(0,0,0,0,0,[],0),[],0,0)).2).2).1).2).2).1,(((((((r.1.getD v.toNat (0,[],(0,0,0,0,0,[],0),[],0,0)).2).2).1).2).2).2).1,((((((((r.1.getD v.toNat (0,[],(0,0,0,0,0,[],0),[],0,0)).2).2).1).2).2).2).2).1,(((((((((r.1.getD v.toNat (0,[],(0,0,0,0,0,[],0),[],0,0)).2).2).1).2).2).2).2).2).1,(((((((((r.1.getD v.toNat (0,[],(0,0,0,0,0,[],0),[],0,0)).2).2).1).2).2).2).2).2).2),((((r.1.getD v.toNat (0,[],(0,0,0,0,0,[],0),[],0,0)).2).2).2).1,(((((r.1.getD v.toNat (0,[],(0,0,0,0,0,[],0),[],0,0)).2).2).2).2).1,(((((r.1.getD v.toNat (0,[],(0,0,0,0,0,[],0),[],0,0)).2).2).2).2).2)).bind fun r3=>
 bif !decide (r3.2=0) then(
 some (.inr (.inr (wi64 (v+1),r3.2,c,c2,c3,c4,c5,c6,c7))))
 else(
 some (.inl (wi64 (v+1),v2,v3,v4,v5,v6,v7,v8,r3.1.1.1,r3.1.1.2.1,r3.1.1.2.2.1,r3.1.1.2.2.2,r3.1.2.1,r3.1.2.2.1,r3.1.2.2.2))))
 else(
 some (.inr (.inl (v2,v3,v4,v5,v6,v7,v8,c,c2,c3,c4,c5,c6,c7))))
def qil(n:yB0)(travel:Int)(text:List UInt8):Option (yB11×Int×Int):=
 (qde (n.1,n.2.1,n.2.2.1,n.2.2.2.1,n.2.2.2.2.1,n.2.2.2.2.2) text).bind fun r=>
 bif !decide (r.2.2=0) then(
 some ((([],([],([],[]))),([],([],0))),r.2.1,r.2.2))
 else(
 (qjE (n.1,n.2.1,n.2.2.1,n.2.2.2.1,n.2.2.2.2.1,n.2.2.2.2.2) travel).bind fun r2=>
 bif !decide (r2.2=0) then(
 some ((([],([],([],[]))),([],([],0))),0,r2.2))
 else(
 (iter (fun x=>qdB n r x.1 x.2.1 x.2.2.1 x.2.2.2.1 x.2.2.2.2.1 x.2.2.2.2.2.1 x.2.2.2.2.2.2.1 x.2.2.2.2.2.2.2.1 x.2.2.2.2.2.2.2.2.1 x.2.2.2.2.2.2.2.2.2.1 x.2.2.2.2.2.2.2.2.2.2.1 x.2.2.2.2.2.2.2.2.2.2.2.1 x.2.2.2.2.2.2.2.2.2.2.2.2.1 x.2.2.2.2.2.2.2.2.2.2.2.2.2.1 x.2.2.2.2.2.2.2.2.2.2.2.2.2.2) (0,[],[],[],[],[],[],0,r2.1.1.1,r2.1.1.2.1,r2.1.1.2.2.1,r2.1.1.2.2.2,r2.1.2.1,r2.1.2.2.1,r2.1.2.2.2)).bind fun s=>
 s.elim (fun s2=>
 some (((s2.2.2.2.2.2.2.2.1,(s2.2.2.2.2.2.2.2.2.1,(s2.2.2.2.2.2.2.2.2.2.1,s2.2.2.2.2.2.2.2.2.2.2.1))),(s2.2.2.2.2.2.2.2.2.2.2.2.1,(s2.2.2.2.2.2.2.2.2.2.2.2.2.1,s2.2.2.2.2.2.2.2.2.2.2.2.2.2))),0,0))
 (fun s3=>
 some (((s3.2.2.1,(s3.2.2.2.1,(s3.2.2.2.2.1,s3.2.2.2.2.2.1))),(s3.2.2.2.2.2.2.1,(s3.2.2.2.2.2.2.2.1,s3.2.2.2.2.2.2.2.2))),s3.1,s3.2.1))))
def qjk:Fun:=
 ⟨16,3,3,
 ⟨[(0,dd tT0),(1,ii),(2,ss)],[],[]⟩,
 ⟨[(0,dd (.pair (.pair (.sl tT1) tT6) (.pair (.sl tT3) (.pair (.sl tT4) I6)))),(1,ii),(2,ii)],[],[]⟩,
 fun x=>qil x.1 x.2.1 x.2.2⟩
theorem qnF:FO qjk:=fi [] [qe4,qoX,ql5] 62 [] ((nn (nn (nn (nn (nn (mm (nn (mm (.mk [] (some (⟨[(3,pt 64 0),(6,pt 112 0),(12,pt 208 0),(39,kk),(40,kk),(41,ii)],[(64,32,kp 6),(112,48,[.data (.sl tT1),.data (.sl I6),.data (.sl I6),.data (.sl (.bool)),.data (.sl tT3),.data (.sl tT4),.data I6]),(208,48,[.data (.sl tT1),.data (.sl I6),.data (.sl I6),.data (.sl (.bool)),.data (.sl tT3),.data (.sl tT4),.data I6])],[]⟩,[⟨.x 0,⟨[(6,pt 112 0),(12,pt 208 0)],[(112,48,[.data (.sl tT1),.data (.sl I6),.data (.sl I6),.data (.sl (.bool)),.data (.sl tT3),.data (.sl tT4),.data I6]),(208,48,[.data (.sl tT1),.data (.sl I6),.data (.sl I6),.data (.sl (.bool)),.data (.sl tT3),.data (.sl tT4),.data I6])],[]⟩⟩,⟨.r,⟨[(6,pt 112 0),(7,ii),(8,ii)],[(112,48,[.data (.sl tT1),.data (.sl I6),.data (.sl I6),.data (.sl (.bool)),.data (.sl tT3),.data (.sl tT4),.data I6])],[]⟩⟩])) .nil .nil) .nil)) .nil))))))) func16 ⟨⟨qhn,qud,qr7,trivial⟩,trivial⟩
def qim:Option (Bool):=
 (qde (([[97],[98]]:List (List UInt8)),[([103],0,1,10,0,0,[(0,0,1000),(10,0,1000)])],[([112],0,0),([113],1,0)],[],0,0) [119,97,105,116,32,53,10,102,108,111,119,32,45,51,32,112,32,113,32,45,103,10]).bind fun r=>
 (qde (([[97],[98]]:List (List UInt8)),[([103],0,1,10,0,0,[(0,0,1000),(10,0,1000)])],[([112],0,0),([113],1,0)],[],0,0) [119,97,105,116,32,48,53,10]).bind fun r2=>
 (qil (([[97],[98]]:List (List UInt8)),[([103],0,1,10,0,0,[(0,0,1000),(10,0,1000)])],[([112],0,0),([113],1,0)],[],0,0) 1 [111,112,101,110,32,48,10,119,97,105,116,32,49,10,101,110,116,114,121,32,115,108,111,112,32,97,32,55,10]).bind fun r3=>
 bif decide (r.2.2=0) then(
 bif decide (r.2.1=0) then(
 bif decide ((r.1.length:Int)=2) then(
 gd (inB 1 r.1.length)<|
 gd (inB 0 ((((((((((r.1.getD 1 (0,[],(0,0,0,0,0,[],0),[],0,0)).2).2).1).2).2).2).2).2).1).length)<|
 bif (((((((((((r.1.getD 1 (0,[],(0,0,0,0,0,[],0),[],0,0)).2).2).1).2).2).2).2).2).1).getD 0 (0,false)).2 then(
 bif decide (r2.2.2=3) then(
 bif decide (r2.2.1=1) then(
 bif decide (r3.2.2=0) then(
 bif decide (r3.2.1=0) then(
 bif decide (r3.1.2.2.2=3) then(
 some (decide ((r3.1.2.2.1.length:Int)=1)))
 else(
 some false))
 else(
 some false))
 else(
 some false))
 else(
 some false))
 else(
 some false))
 else(
 some false))
 else(
 some false))
 else(
 some false))
 else(
 some false)
def qnG:Fun:=
 ⟨8,0,1,
 ⟨[],[],[]⟩,
 ⟨[(0,bb)],[],[]⟩,
 fun x=>qim⟩
theorem qsV:FO qnG:=fi [] [qe4,qjk] 88 [] .nil func8 ⟨⟨qhn,qnF,trivial⟩,trivial⟩
def qq4(l:List Int):Option (List Int×Int):=
 gd (cutG none (some (.i64,min (l.length:Int) 2000)) l.length)<|
 some (l.take (min (l.length:Int) 2000).toNat,0)
def qr8:Fun:=
 ⟨9,1,1,
 ⟨r134_,[],[]⟩,
 ⟨[(0,pt 0 0)],v3_,[]⟩,
 fun x=>qq4 x⟩
theorem qwV:FO qr8:=fi [] [] 10 [] .nil func9 ⟨trivial,trivial⟩
def qi2(s:List Int)(s2:Int):Option (Int×List Int×Int):=
 bif decide ((s.length:Int)<=s2) then(
 some (0,s,s2))
 else(
 gd (inB (wi64 ((wi64 (s2+1))-1)) s.length)<|
 some (s.getD (wi64 ((wi64 (s2+1))-1)).toNat 0,s,wi64 (s2+1)))
def ql6:Fun:=
 ⟨74,1,1,
 ⟨[(0,pt 0 0)],v3_,[]⟩,
 ⟨[(0,ii)],v3_,[]⟩,
 fun x=>qi2 x.1 x.2⟩
theorem qr9:FO ql6:=fi [] [] 31 [] .nil func74 ⟨trivial,trivial⟩
def qq5(x:Int)(n:Int):Option (Int):=
 bif decide (n<1) then(
 some 0)
 else(
 gd (!decide (n=0))<|
 bif decide (Int.tmod x n<0) then(
 some (wi64 ((Int.tmod x n)+n)))
 else(
 some (Int.tmod x n)))
def qsa:Fun:=
 ⟨70,2,1,
 ⟨r60_,[],[]⟩,
 ⟨[(0,ii)],[],[]⟩,
 fun x=>qq5 x.1 x.2⟩
theorem qwW:FO qsa:=fi [] [] 16 [] .nil func70 ⟨trivial,trivial⟩
def qab(n:Int)(s:List Int)(s2:Int):Option (Int×List Int×Int):=
 (qi2 s s2).bind fun r=>
 (qq5 r.1 n).bind fun r2=>
 some (r2,r.2.1,r.2.2)
def qa8:Fun:=
 ⟨29,2,1,
 ⟨r143_,v3_,[]⟩,
 ⟨[(0,ii)],v3_,[]⟩,
 fun x=>qab x.1 x.2.1 x.2.2⟩
theorem qbk:FO qa8:=fi [] [ql6,qsa] 9 [] .nil func29 ⟨⟨qr9,qwW,trivial⟩,trivial⟩
def qap(l:List Int)(s:List Int)(s2:Int):Option (Int×List Int×Int):=
 (qab (l.length:Int) s s2).bind fun r=>
 gd (inB r.1 l.length)<|
 some (l.getD r.1.toNat 0,r.2.1,r.2.2)
def qb3:Fun:=
 ⟨25,2,1,
 ⟨[(0,pt 0 0),(1,dd (.sl I6))],v3_,[]⟩,
 ⟨[(0,ii)],v3_,[]⟩,
 fun x=>qap x.1 x.2.1 x.2.2⟩
theorem qcA:FO qb3:=fi [] [qa8] 12 [] .nil func25 ⟨⟨qbk,trivial⟩,trivial⟩
def qa5(lo:Int)(hi:Int)(s:List Int)(s2:Int):Option (Int×List Int×Int):=
 (qab (wi64 ((wi64 (hi-lo))+1)) s s2).bind fun r=>
 some (wi64 (lo+r.1),r.2.1,r.2.2)
def qef:Fun:=
 ⟨26,3,1,
 ⟨[(0,pt 0 0),(1,ii),(2,ii)],v3_,[]⟩,
 ⟨[(0,ii)],v3_,[]⟩,
 fun x=>qa5 x.1 x.2.1 x.2.2.1 x.2.2.2⟩
theorem qgi:FO qef:=fi [] [qa8] 15 [] .nil func26 ⟨⟨qbk,trivial⟩,trivial⟩
def qin(first:List UInt8)(n:Int):Option (List UInt8):=
 gd (Nat.ble (first.length+(qga [wu8 (wi64 (97+(Int.tmod n 26)))]).length) 9223372036854775807)<|
 some (first++(qga [wu8 (wi64 (97+(Int.tmod n 26)))]))
def ql7:Fun:=
 ⟨27,2,1,
 ⟨[(0,ss),(1,ii)],[],[]⟩,
 ⟨[(0,ss)],[],[]⟩,
 fun x=>qin x.1 x.2⟩
theorem qqz:FO ql7:=fi [] [] 13 [] .nil func27 ⟨trivial,trivial⟩
def qio(r3:Int×List Int×Int)(r6:Int×List Int×Int)(vat:Int)(s4:List Int)(s5:Int)(x:List (Int×Int×Int)):Option ((Int×List Int×Int×List (Int×Int×Int))⊕(List Int×Int×List (Int×Int×Int))):=
 Option.bind (α:=Bool×List Int×Int×List (Int×Int×Int)) (
 bif decide ((x.length:Int)<7) then(
 (qab 3 s4 s5).bind fun r8=>
 some (decide (0<r8.1),r8.2.1,r8.2.2,x))
 else(
 some (false,s4,s5,x))) fun s6=>
 bif s6.1 then(
 (qa5 1 40 s6.2.1 s6.2.2.1).bind fun r9=>
 bif decide (r3.1<=wi64 (vat+r9.1)) then(
 some (.inr (r9.2.1,r9.2.2,s6.2.2.2)))
 else(
 (qa5 (-5) 60 r9.2.1 r9.2.2).bind fun r10=>
 (qap ([1,1,10]:List Int) r10.2.1 r10.2.2).bind fun r11=>
 (qab 3 r11.2.1 r11.2.2).bind fun r12=>
 gd (fits (s6.2.2.2.length+1) 24)<|
 some (.inl (wi64 (vat+r9.1),r12.2.1,r12.2.2,s6.2.2.2++[(wi64 (vat+r9.1),(wi64 (r10.1*r11.1),wi64 (r6.1-(wi64 (r12.1*1000)))))]))))
 else(
 some (.inr (s6.2.1,s6.2.2.1,s6.2.2.2)))
def qdw(k:Int)(vfrom:Int)(to:Int)(s:List Int)(s2:Int):Option (yT0×List Int×Int):=
 (qab 4 s s2).bind fun r=>
 Option.bind (α:=Int×Int) (
 bif decide (r.1=0) then(
 some (to,vfrom))
 else(
 some (vfrom,to))) fun s3=>
 (qin [103] k).bind fun r2=>
 (qap ([1,2,7,20,60,200,1000]:List Int) r.2.1 r.2.2).bind fun r3=>
 (qap ([0,1,5,1000]:List Int) r3.2.1 r3.2.2).bind fun r4=>
 (qap ([0,50,1000,100000]:List Int) r4.2.1 r4.2.2).bind fun r5=>
 (qap ([1000000,6000000,100000000]:List Int) r5.2.1 r5.2.2).bind fun r6=>
 (qa5 (-5) 30 r6.2.1 r6.2.2).bind fun r7=>
 (iter (fun x2=>qio r3 r6 x2.1 x2.2.1 x2.2.2.1 x2.2.2.2) (0,r7.2.1,r7.2.2,[(0,r7.1,r6.1)])).bind fun s7=>
 (qa5 (-5) 30 s7.1 s7.2.1).bind fun r13=>
 gd (fits (s7.2.2.length+1) 24)<|
 some ((r2,s3.1,s3.2,r3.1,r4.1,r5.1,s7.2.2++[(r3.1,r13.1,r6.1)]),r13.2.1,r13.2.2)
def qip:Fun:=
 ⟨28,4,1,
 ⟨[(0,pt 0 0),(1,ii),(2,ii),(3,ii)],v3_,[]⟩,
 ⟨r109_,v3_,[]⟩,
 fun x=>qdw x.1 x.2.1 x.2.2.1 x.2.2.2.1 x.2.2.2.2⟩
theorem qoi:FO qip:=fi [] [qa8,ql7,qb3,qef] 90 [] ((nn (mm (nn (.mk [.join [⟨.n,⟨[(0,pt 0 0),(1,kk),(2,ii),(3,ii),(8,pt 144 0)],[(0,87,[.keep,.keep]),(144,83,kp 7)],[]⟩⟩]] none .nil .nil)) (nn (nn (nn (mm (nn (mm (.mk [] (some (⟨[(0,pt 0 0),(8,pt 144 0),(9,pt 160 0),(10,kk),(11,ii)],v23_,a120_⟩,[⟨.x 0,⟨[(0,pt 0 0),(8,pt 144 0),(9,pt 160 0),(10,kk)],v23_,a120_⟩⟩])) (mm (mm (.mk [.join [⟨.n,⟨[(0,pt 0 0),(8,pt 144 0),(9,pt 160 0),(10,kk),(11,kk),(51,bb)],v23_,a120_⟩⟩]] none .nil .nil) .nil) .nil) .nil) .nil)) .nil))))))) func28 ⟨⟨qbk,qqz,qcA,qgi,trivial⟩,trivial⟩
def qiq(i:Int)(n:List (List UInt8)):Option ((Int×List (List UInt8))⊕(List (List UInt8))):=
 bif decide (0<i) then(
 (qin [110] (n.length:Int)).bind fun r4=>
 gd (fits (n.length+1) 16)<|
 some (.inl (wi64 (i-1),n++[r4])))
 else(
 some (.inr n))
def qir(s3:List (List UInt8))(i2:Int)(s4:List Int)(s5:Int)(n2:List (List UInt8))(n3:List yT0):Option ((Int×List Int×Int×List (List UInt8)×List yT0)⊕(List Int×Int×List (List UInt8)×List yT0)):=
 bif decide (i2<wi64 ((s3.length:Int)-1)) then(
 (qdw (n3.length:Int) i2 (wi64 (i2+1)) s4 s5).bind fun r5=>
 gd (fits (n3.length+1) 80)<|
 some (.inl (wi64 (i2+1),r5.2.1,r5.2.2,n2,n3++[(r5.1.1,(r5.1.2.1,(r5.1.2.2.1,(r5.1.2.2.2.1,(r5.1.2.2.2.2.1,(r5.1.2.2.2.2.2.1,r5.1.2.2.2.2.2.2))))))])))
 else(
 some (.inr (s4,s5,n2,n3)))
def qis(s3:List (List UInt8))(i3:Int)(s7:List Int)(s8:Int)(n4:List (List UInt8))(n5:List yT0):Option ((Int×List Int×Int×List (List UInt8)×List yT0)⊕(List Int×Int×List (List UInt8)×List yT0)):=
 bif decide (0<i3) then(
 (qab (wi64 ((s3.length:Int)-1)) s7 s8).bind fun r7=>
 (qa5 (wi64 (r7.1+1)) (wi64 ((s3.length:Int)-1)) r7.2.1 r7.2.2).bind fun r8=>
 (qdw (n5.length:Int) r7.1 r8.1 r8.2.1 r8.2.2).bind fun r9=>
 gd (fits (n5.length+1) 80)<|
 some (.inl (wi64 (i3-1),r9.2.1,r9.2.2,n4,n5++[(r9.1.1,(r9.1.2.1,(r9.1.2.2.1,(r9.1.2.2.2.1,(r9.1.2.2.2.2.1,(r9.1.2.2.2.2.2.1,r9.1.2.2.2.2.2.2))))))])))
 else(
 some (.inr (s7,s8,n4,n5)))
def qit(s3:List (List UInt8))(i4:Int)(s10:List Int)(s11:Int)(n6:List (List UInt8))(n7:List yT0)(n8:List (List UInt8×Int×Int))(n9:List yB2):Option ((Int×List Int×Int×List (List UInt8)×(List yT0)×(List (List UInt8×Int×Int))×List yB2)⊕(List Int×Int×List (List UInt8)×(List yT0)×(List (List UInt8×Int×Int))×List yB2)):=
 bif decide (i4<=wi64 ((s3.length:Int)-1)) then(
 Option.bind (α:=Bool×List Int×Int×List (List UInt8)×(List yT0)×(List (List UInt8×Int×Int))×List yB2) (
 bif decide (i4=0) then(
 some (true,s10,s11,n6,n7,n8,n9))
 else(
 bif decide (i4=wi64 ((s3.length:Int)-1)) then(
 some (true,s10,s11,n6,n7,n8,n9))
 else(
 (qab 2 s10 s11).bind fun r10=>
 some (decide (r10.1=0),r10.2.1,r10.2.2,n6,n7,n8,n9)))) fun s12=>
 Option.bind (α:=List Int×Int×List (List UInt8)×(List yT0)×(List (List UInt8×Int×Int))×List yB2) (
 bif s12.1 then(
 (qin [113] (s12.2.2.2.2.2.1.length:Int)).bind fun r11=>
 (qap ([300000,1000000,0,5000000]:List Int) s12.2.1 s12.2.2.1).bind fun r12=>
 gd (fits (s12.2.2.2.2.2.1.length+1) 32)<|
 some (r12.2.1,r12.2.2,s12.2.2.2.1,s12.2.2.2.2.1,s12.2.2.2.2.2.1++[(r11,(i4,r12.1))],s12.2.2.2.2.2.2))
 else(
 some (s12.2.1,s12.2.2.1,s12.2.2.2.1,s12.2.2.2.2.1,s12.2.2.2.2.2.1,s12.2.2.2.2.2.2))) fun s13=>
 Option.bind (α:=Bool×List Int×Int×List (List UInt8)×(List yT0)×(List (List UInt8×Int×Int))×List yB2) (
 bif decide (i4<wi64 ((s3.length:Int)-1)) then(
 (qab 3 s13.1 s13.2.1).bind fun r13=>
 some (decide (r13.1=0),r13.2.1,r13.2.2,s13.2.2.1,s13.2.2.2.1,s13.2.2.2.2.1,s13.2.2.2.2.2))
 else(
 some (false,s13.1,s13.2.1,s13.2.2.1,s13.2.2.2.1,s13.2.2.2.2.1,s13.2.2.2.2.2))) fun s14=>
 Option.bind (α:=List Int×Int×List (List UInt8)×(List yT0)×(List (List UInt8×Int×Int))×List yB2) (
 bif s14.1 then(
 (qin [115] (s14.2.2.2.2.2.2.length:Int)).bind fun r14=>
 (qap ([500000,2000000,0]:List Int) s14.2.1 s14.2.2.1).bind fun r15=>
 (qap ([0,200,100000]:List Int) r15.2.1 r15.2.2).bind fun r16=>
 (qap ([0,100000,400000]:List Int) r16.2.1 r16.2.2).bind fun r17=>
 gd (fits (s14.2.2.2.2.2.2.length+1) 48)<|
 some (r17.2.1,r17.2.2,s14.2.2.2.1,s14.2.2.2.2.1,s14.2.2.2.2.2.1,s14.2.2.2.2.2.2++[(r14,(i4,(r15.1,(r16.1,r17.1))))]))
 else(
 some (s14.2.1,s14.2.2.1,s14.2.2.2.1,s14.2.2.2.2.1,s14.2.2.2.2.2.1,s14.2.2.2.2.2.2))) fun s15=>
 some (.inl (wi64 (i4+1),s15.1,s15.2.1,s15.2.2.1,s15.2.2.2.1,s15.2.2.2.2.1,s15.2.2.2.2.2)))
 else(
 some (.inr (s10,s11,n6,n7,n8,n9)))
def qe5(s:List Int)(s2:Int):Option (yB0×List Int×Int):=
 (qap ([(-100000),0,50000]:List Int) s s2).bind fun r=>
 (qap ([0,1,5,100]:List Int) r.2.1 r.2.2).bind fun r2=>
 (qa5 2 6 r2.2.1 r2.2.2).bind fun r3=>
 (iter (fun x=>qiq x.1 x.2) (r3.1,[])).bind fun s3=>
 (iter (fun x2=>qir s3 x2.1 x2.2.1 x2.2.2.1 x2.2.2.2.1 x2.2.2.2.2) (0,r3.2.1,r3.2.2,s3,[])).bind fun s6=>
 (qab 4 s6.1 s6.2.1).bind fun r6=>
 (iter (fun x3=>qis s3 x3.1 x3.2.1 x3.2.2.1 x3.2.2.2.1 x3.2.2.2.2) (r6.1,r6.2.1,r6.2.2,s6.2.2.1,s6.2.2.2)).bind fun s9=>
 (iter (fun x4=>qit s3 x4.1 x4.2.1 x4.2.2.1 x4.2.2.2.1 x4.2.2.2.2.1 x4.2.2.2.2.2.1 x4.2.2.2.2.2.2) (0,s9.1,s9.2.1,s9.2.2.1,s9.2.2.2,[],[])).bind fun s16=>
 some ((s16.2.2.1,s16.2.2.2.1,s16.2.2.2.2.1,s16.2.2.2.2.2,r.1,r2.1),s16.1,s16.2.1)
def qiu:Fun:=
 ⟨10,1,1,
 ⟨[(0,pt 0 0)],v3_,[]⟩,
 ⟨[(0,dd tT0)],v3_,[]⟩,
 fun x=>qe5 x.1 x.2⟩
theorem qoj:FO qiu:=fi [] [qb3,qef,ql7,qip,qa8] 139 [] ((nn (nn (mm (nn (mm (.mk [] (some (⟨[(0,pt 0 0),(2,pt 48 0),(3,pt 64 0),(4,ii)],v67_,[(1049,.arr 9 (.str))]⟩,[⟨.x 0,⟨[(0,pt 0 0),(2,pt 48 0),(3,pt 64 0)],v67_,[(1049,.arr 9 (.str))]⟩⟩])) .nil .nil) .nil)) (nn (mm (nn (mm (.mk [] (some (⟨[(0,pt 0 0),(2,pt 48 0),(3,pt 64 0),(5,kk),(6,ii)],v14_,a51_⟩,[⟨.x 2,⟨[(0,pt 0 0),(2,pt 48 0),(3,pt 64 0),(5,kk)],v14_,a51_⟩⟩])) .nil .nil) .nil)) (mm (nn (mm (.mk [] (some (⟨[(0,pt 0 0),(2,pt 48 0),(3,pt 64 0),(5,kk),(7,ii)],v14_,a51_⟩,[⟨.x 4,⟨[(0,pt 0 0),(2,pt 48 0),(3,pt 64 0),(5,kk)],v14_,a51_⟩⟩])) .nil .nil) .nil)) (mm (nn (mm (.mk [] (some (⟨[(0,pt 0 0),(2,pt 48 0),(3,pt 64 0),(5,kk),(9,ii)],v9_,a11_⟩,[⟨.x 6,⟨r29_,[(48,32,kp 6),(64,32,[.own 1049,.own 1065,.own 1081,.own 1097,.keep,.keep]),(0,87,[.data (.sl I6),.data I6])],a11_⟩⟩])) (nn (mm (mm (mm (mm (.mk [.join [⟨.n,⟨[(0,pt 0 0),(2,pt 48 0),(3,pt 64 0),(5,kk),(9,kk),(95,bb)],v9_,a11_⟩⟩]] none .nil .nil) (.mk [.join [⟨.n,⟨r126_,v9_,a11_⟩⟩]] none .nil .nil)) (mm (.mk [.join [⟨.n,⟨[(0,pt 0 0),(2,pt 48 0),(3,pt 64 0),(5,kk),(9,kk),(117,bb)],v9_,a11_⟩⟩]] none .nil .nil) (.mk [.join [⟨.n,⟨r126_,v9_,a11_⟩⟩]] none .nil .nil))) .nil) .nil)) .nil) .nil)) .nil)))))))) func10 ⟨⟨qcA,qgi,qqz,qoi,qbk,trivial⟩,trivial⟩
def qbA(n:Int)(low:Int)(high:Int):Option (Bool):=
 bif decide (low<=n) then(
 some (decide (n<=high)))
 else(
 some false)
def qok:Fun:=
 ⟨112,3,1,
 ⟨[(0,ii),(1,ii),(2,ii)],[],[]⟩,
 ⟨[(0,bb)],[],[]⟩,
 fun x=>qbA x.1 x.2.1 x.2.2⟩
theorem qsb:FO qok:=fi [] [] 15 [] .nil func112 ⟨trivial,trivial⟩
def qsW(n:yB0)(v:Int)(out:List (List UInt8)):Option ((Int×List (List UInt8))⊕(List (List UInt8))):=
 bif decide (v<(n.2.1.length:Int)) then(
 gd (inB v n.2.1.length)<|
 gd (fits (out.length+1) 16)<|
 some (.inl (wi64 (v+1),out++[(n.2.1.getD v.toNat ([],(0,(0,(0,(0,(0,[]))))))).1])))
 else(
 some (.inr out))
def qsX(n:yB0)(v2:Int)(out2:List (List UInt8))(out3:List (List UInt8)):Option ((Int×List (List UInt8)×List (List UInt8))⊕(List (List UInt8)×List (List UInt8))):=
 bif decide (v2<(n.2.2.1.length:Int)) then(
 gd (inB v2 n.2.2.1.length)<|
 gd (fits (out3.length+1) 16)<|
 some (.inl (wi64 (v2+1),out2,out3++[(n.2.2.1.getD v2.toNat ([],(0,0))).1])))
 else(
 some (.inr (out2,out3)))
def qsY(n:yB0)(v3:Int)(out4:List (List UInt8))(out5:List (List UInt8))(out6:List (List UInt8)):Option ((Int×List (List UInt8)×List (List UInt8)×List (List UInt8))⊕(List (List UInt8)×List (List UInt8)×List (List UInt8))):=
 bif decide (v3<(n.2.2.2.1.length:Int)) then(
 gd (inB v3 n.2.2.2.1.length)<|
 gd (fits (out6.length+1) 16)<|
 some (.inl (wi64 (v3+1),out4,out5,out6++[(n.2.2.2.1.getD v3.toNat ([],(0,(0,(0,0))))).1])))
 else(
 some (.inr (out4,out5,out6)))
def qol(n:yB0):Option yB12:=
 (iter (fun x=>qsW n x.1 x.2) (0,[])).bind fun s=>
 (iter (fun x2=>qsX n x2.1 x2.2.1 x2.2.2) (0,s,[])).bind fun s2=>
 (iter (fun x3=>qsY n x3.1 x3.2.1 x3.2.2.1 x3.2.2.2) (0,s2.1,s2.2,[])).bind fun s3=>
 some (n.1,s3.1,s3.2.1,s3.2.2)
def qnH:Fun:=
 ⟨113,1,1,
 ⟨[(0,dd tT0)],[],[]⟩,
 ⟨r84_,[],[]⟩,
 fun x=>qol x⟩
theorem qsZ:FO qnH:=fi [] [] 59 [] ((nn (nn (nn (mm (nn (mm (.mk [] (some (⟨r105_,v31_,a142_⟩,[⟨.x 0,⟨r41_,v31_,a142_⟩⟩])) .nil .nil) .nil)) (mm (nn (mm (.mk [] (some (⟨r106_,v27_,a75_⟩,[⟨.x 2,⟨r41_,v27_,a75_⟩⟩])) .nil .nil) .nil)) (mm (nn (mm (.mk [] (some (⟨r127_,v35_,a37_⟩,[⟨.x 4,⟨r29_,v35_,a37_⟩⟩])) .nil .nil) .nil)) .nil))))))) func113 ⟨trivial,trivial⟩
def qcc(s:List UInt8)(i:Int):Option (Int⊕(Unit⊕Bool)):=
 bif decide (i<(s.length:Int)) then(
 Option.bind (α:=Bool) (
 gd (inB i s.length)<|
 bif decide ((Int.ofNat (s.getD i.toNat 0).toNat)<97) then(
 gd (inB i s.length)<|
 bif decide ((Int.ofNat (s.getD i.toNat 0).toNat)<48) then(
 gd (inB i s.length)<|
 some (!decide ((Int.ofNat (s.getD i.toNat 0).toNat)=45)))
 else(
 gd (inB i s.length)<|
 bif decide (57<(Int.ofNat (s.getD i.toNat 0).toNat)) then(
 gd (inB i s.length)<|
 some (!decide ((Int.ofNat (s.getD i.toNat 0).toNat)=45)))
 else(
 some false)))
 else(
 gd (inB i s.length)<|
 bif decide (122<(Int.ofNat (s.getD i.toNat 0).toNat)) then(
 gd (inB i s.length)<|
 bif decide ((Int.ofNat (s.getD i.toNat 0).toNat)<48) then(
 gd (inB i s.length)<|
 some (!decide ((Int.ofNat (s.getD i.toNat 0).toNat)=45)))
 else(
 gd (inB i s.length)<|
 bif decide (57<(Int.ofNat (s.getD i.toNat 0).toNat)) then(
 gd (inB i s.length)<|
 some (!decide ((Int.ofNat (s.getD i.toNat 0).toNat)=45)))
 else(
 some false)))
 else(
 some false))) fun s3=>
 bif s3 then(
 some (.inr (.inr false)))
 else(
 some (.inl (wi64 (i+1)))))
 else(
 some (.inr (.inl ())))
def qcn(s:List UInt8):Option (Bool):=
 Option.bind (α:=Bool) (
 bif decide ((s.length:Int)<1) then(
 some true)
 else(
 bif decide (12<(s.length:Int)) then(
 some true)
 else(
 gd (inB 0 s.length)<|
 bif decide ((Int.ofNat (s.getD 0 0).toNat)<97) then(
 some true)
 else(
 gd (inB 0 s.length)<|
 some (decide (122<(Int.ofNat (s.getD 0 0).toNat))))))) fun s2=>
 bif s2 then(
 some false)
 else(
 (iter (fun x=>qcc s x) 0).bind fun s4=>
 s4.elim (fun s5=>
 some true)
 (fun s6=>
 some s6))
def qfV:Fun:=
 ⟨114,1,1,
 ⟨[(0,ss)],[],[]⟩,
 ⟨[(0,bb)],[],[]⟩,
 fun x=>qcn x⟩
theorem qhT:FO qfV:=fi [] [] 56 [] ((nn (mm (mm (.mk [.join [⟨.n,⟨[(0,kk),(21,bb)],[],[]⟩⟩]] none .nil .nil) .nil) (mm (nn (mm (.mk [] (some (⟨[(0,kk),(3,ii)],[],[]⟩,[⟨.x 0,⟨[],[],[]⟩⟩,⟨.r,⟨[(2,bb)],[],[]⟩⟩])) (nn (mm (mm (mm (.mk [.join [⟨.n,⟨[(0,kk),(3,kk),(55,bb)],[],[]⟩⟩]] none .nil .nil) .nil) .nil) .nil)) .nil) .nil)) .nil)))) func114 ⟨trivial,trivial⟩
def qgx(l:List (List UInt8))(v:Int)(k:Int):Option (Int⊕(Unit⊕Bool)):=
 bif decide (k<v) then(
 gd (inB v l.length)<|
 gd (inB k l.length)<|
 bif decide (l.getD v.toNat []=l.getD k.toNat []) then(
 some (.inr (.inr true)))
 else(
 some (.inl (wi64 (k+1)))))
 else(
 some (.inr (.inl ())))
def qjl(l:List (List UInt8))(v:Int):Option (Int⊕(Unit⊕Bool)):=
 bif decide (v<(l.length:Int)) then(
 (iter (fun x=>qgx l v x) 0).bind fun s=>
 s.elim (fun s2=>
 some (.inl (wi64 (v+1))))
 (fun s3=>
 some (.inr (.inr s3))))
 else(
 some (.inr (.inl ())))
def qkv(l:List (List UInt8)):Option (Bool):=
 (iter (fun x2=>qjl l x2) 0).bind fun s4=>
 s4.elim (fun s5=>
 some false)
 (fun s6=>
 some s6)
def qnI:Fun:=
 ⟨115,1,1,
 ⟨r81_,[],[]⟩,
 ⟨[(0,bb)],[],[]⟩,
 fun x=>qkv x⟩
theorem qs0:FO qnI:=fi [] [] 25 [] ((nn (mm (nn (mm (.mk [] (some (⟨[(0,kk),(6,kk),(7,ii)],[],[]⟩,[⟨.x 0,⟨[],[],[]⟩⟩,⟨.r,⟨[(2,bb)],[],[]⟩⟩])) (nn (nn (mm (mm (nn (nn (mm (.mk [] (some (⟨[(0,kk),(3,kk),(4,ii),(6,kk),(7,kk)],[],[]⟩,[⟨.x 2,⟨[(0,kk),(6,kk),(7,kk)],[],[]⟩⟩,⟨.r,⟨[(2,bb)],[],[]⟩⟩])) .nil .nil) .nil))) .nil) .nil))) .nil) .nil)) .nil))) func115 ⟨trivial,trivial⟩
def qfW(s:yB9)(v:Int):Option (Int⊕(Unit⊕Bool)):=
 bif decide (v<(s.2.2.2.2.2.2.length:Int)) then(
 gd (inB v s.2.2.2.2.2.2.length)<|
 Option.bind (α:=Bool) (
 bif decide (0<v) then(
 gd (inB (wi64 (v-1)) s.2.2.2.2.2.2.length)<|
 bif decide ((s.2.2.2.2.2.2.getD v.toNat (0,0,0)).1<=(s.2.2.2.2.2.2.getD (wi64 (v-1)).toNat (0,0,0)).1) then(
 some true)
 else(
 (qbA (((s.2.2.2.2.2.2.getD v.toNat (0,0,0)).2).1) (-500) 5000).bind fun r4=>
 bif !r4 then(
 some true)
 else(
 (qbA (((s.2.2.2.2.2.2.getD v.toNat (0,0,0)).2).2) 0 100000000).bind fun r5=>
 some (!r5))))
 else(
 (qbA (((s.2.2.2.2.2.2.getD v.toNat (0,0,0)).2).1) (-500) 5000).bind fun r6=>
 bif !r6 then(
 some true)
 else(
 (qbA (((s.2.2.2.2.2.2.getD v.toNat (0,0,0)).2).2) 0 100000000).bind fun r7=>
 some (!r7)))) fun s3=>
 bif s3 then(
 some (.inr (.inr false)))
 else(
 some (.inl (wi64 (v+1)))))
 else(
 some (.inr (.inl ())))
def qfp(s:yB9):Option (Bool):=
 Option.bind (α:=Bool) (
 bif decide (s.2.1=s.2.2.1) then(
 some true)
 else(
 (qbA s.2.2.2.1 1 1000000).bind fun r=>
 bif !r then(
 some true)
 else(
 (qbA s.2.2.2.2.1 0 1000).bind fun r2=>
 bif !r2 then(
 some true)
 else(
 (qbA s.2.2.2.2.2.1 0 100000).bind fun r3=>
 bif !r3 then(
 some true)
 else(
 gd (inB 0 s.2.2.2.2.2.2.length)<|
 bif !decide ((s.2.2.2.2.2.2.getD 0 (0,0,0)).1=0) then(
 some true)
 else(
 gd (inB (wi64 ((s.2.2.2.2.2.2.length:Int)-1)) s.2.2.2.2.2.2.length)<|
 some (!decide ((s.2.2.2.2.2.2.getD (wi64 ((s.2.2.2.2.2.2.length:Int)-1)).toNat (0,(0,0))).1=s.2.2.2.1)))))))) fun s2=>
 bif s2 then(
 some false)
 else(
 (iter (fun x=>qfW s x) 0).bind fun s4=>
 s4.elim (fun s5=>
 some true)
 (fun s6=>
 some s6))
def ql8:Fun:=
 ⟨116,1,1,
 ⟨r109_,[],[]⟩,
 ⟨[(0,bb)],[],[]⟩,
 fun x=>qfp x⟩
theorem qsc:FO ql8:=fi [] [qok] 85 [] ((nn (mm (mm (.mk [.join [⟨.n,⟨[(1,pt 32 0),(49,bb)],v114_,[]⟩⟩]] none .nil .nil) .nil) (mm (nn (mm (.mk [] (some (⟨[(1,pt 32 0),(51,kk),(52,kk),(53,ii)],v114_,[]⟩,[⟨.x 0,⟨[],[],[]⟩⟩,⟨.r,⟨[(2,bb)],[],[]⟩⟩])) (nn (nn (mm (mm (nn (mm (.mk [.join [⟨.n,⟨[(1,pt 32 0),(51,kk),(52,kk),(53,kk),(83,bb)],v114_,[]⟩⟩]] none .nil .nil) .nil)) .nil) .nil))) .nil) .nil)) .nil)))) func116 ⟨⟨qsb,trivial⟩,trivial⟩
def qeC(n:yB0)(v:Int):Option (Int⊕(Unit⊕Int)):=
 bif decide (v<(n.2.1.length:Int)) then(
 gd (inB v n.2.1.length)<|
 (qbA ((((((((n.2.1.getD v.toNat ([],0,0,0,0,0,[])).2).2).2).2).2).2).length:Int) 2 8).bind fun r2=>
 bif !r2 then(
 some (.inr (.inr 4)))
 else(
 some (.inl (wi64 (v+1)))))
 else(
 some (.inr (.inl ())))
def qdC(v2:List (List UInt8))(v3:List (List UInt8))(v4:List (List UInt8))(v5:List (List UInt8))(v6:Int)(v7:List (List UInt8))(v8:List (List UInt8))(v9:List (List UInt8))(v10:List (List UInt8))(v11:Int):Option ((List (List UInt8)×List (List UInt8)×List (List UInt8)×List (List UInt8)×Int)⊕(yB12⊕Int)):=
 bif decide (v11<(([v2,v3,v4,v5].getD v6.toNat []).length:Int)) then(
 gd (inB v11 ([v2,v3,v4,v5].getD v6.toNat []).length)<|
 (qcn (([v2,v3,v4,v5].getD v6.toNat []).getD v11.toNat [])).bind fun r4=>
 bif !r4 then(
 some (.inr (.inr 3)))
 else(
 some (.inl (v7,v8,v9,v10,wi64 (v11+1)))))
 else(
 some (.inr (.inl (v7,v8,v9,v10))))
def qgy(v2:List (List UInt8))(v3:List (List UInt8))(v4:List (List UInt8))(v5:List (List UInt8))(v6:Int):Option ((List (List UInt8)×List (List UInt8)×List (List UInt8)×List (List UInt8)×Int)⊕(Unit⊕Int)):=
 bif decide (v6<4) then(
 gd (inB v6 4)<|
 (iter (fun x2=>qdC v2 v3 v4 v5 v6 x2.1 x2.2.1 x2.2.2.1 x2.2.2.2.1 x2.2.2.2.2) (v2,v3,v4,v5,0)).bind fun s5=>
 s5.elim (fun s6=>
 some (.inl (s6.1,s6.2.1,s6.2.2.1,s6.2.2.2,wi64 (v6+1))))
 (fun s7=>
 some (.inr (.inr s7))))
 else(
 some (.inr (.inl ())))
def qgz(v12:List (List UInt8))(v13:List (List UInt8))(v14:List (List UInt8))(v15:List (List UInt8))(v16:Int):Option ((List (List UInt8)×List (List UInt8)×List (List UInt8)×List (List UInt8)×Int)⊕(Unit⊕Int)):=
 bif decide (v16<4) then(
 gd (inB v16 4)<|
 (qkv ([v12,v13,v14,v15].getD v16.toNat [])).bind fun r5=>
 bif r5 then(
 some (.inr (.inr 7)))
 else(
 some (.inl (v12,v13,v14,v15,wi64 (v16+1)))))
 else(
 some (.inr (.inl ())))
def qgA(n:yB0)(v17:Int)(k:Int):Option (Int⊕(Unit⊕Int)):=
 bif decide (k<v17) then(
 gd (inB v17 n.2.2.2.1.length)<|
 gd (inB k n.2.2.2.1.length)<|
 bif decide (((n.2.2.2.1.getD v17.toNat ([],0,0,0,0)).2).1=((n.2.2.2.1.getD k.toNat ([],0,0,0,0)).2).1) then(
 some (.inr (.inr 7)))
 else(
 some (.inl (wi64 (k+1)))))
 else(
 some (.inr (.inl ())))
def qgB(n:yB0)(v17:Int):Option (Int⊕(Unit⊕Int)):=
 bif decide (v17<(n.2.2.2.1.length:Int)) then(
 (iter (fun x5=>qgA n v17 x5) 0).bind fun s14=>
 s14.elim (fun s15=>
 some (.inl (wi64 (v17+1))))
 (fun s16=>
 some (.inr (.inr s16))))
 else(
 some (.inr (.inl ())))
def qeD(n:yB0)(v18:Int):Option (Int⊕(Unit⊕Int)):=
 bif decide (v18<(n.2.1.length:Int)) then(
 gd (inB v18 n.2.1.length)<|
 Option.bind (α:=Bool) (
 (qbA (((n.2.1.getD v18.toNat ([],0,0,0,0,0,[])).2).1) 0 (wi64 ((n.1.length:Int)-1))).bind fun r6=>
 bif !r6 then(
 some true)
 else(
 (qbA ((((n.2.1.getD v18.toNat ([],0,0,0,0,0,[])).2).2).1) 0 (wi64 ((n.1.length:Int)-1))).bind fun r7=>
 some (!r7))) fun s20=>
 bif s20 then(
 some (.inr (.inr 8)))
 else(
 some (.inl (wi64 (v18+1)))))
 else(
 some (.inr (.inl ())))
def qeE(n:yB0)(v19:Int):Option (Int⊕(Unit⊕Int)):=
 bif decide (v19<(n.2.2.1.length:Int)) then(
 gd (inB v19 n.2.2.1.length)<|
 (qbA (((n.2.2.1.getD v19.toNat ([],0,0)).2).1) 0 (wi64 ((n.1.length:Int)-1))).bind fun r8=>
 bif !r8 then(
 some (.inr (.inr 8)))
 else(
 some (.inl (wi64 (v19+1)))))
 else(
 some (.inr (.inl ())))
def qeF(n:yB0)(v20:Int):Option (Int⊕(Unit⊕Int)):=
 bif decide (v20<(n.2.2.2.1.length:Int)) then(
 gd (inB v20 n.2.2.2.1.length)<|
 (qbA (((n.2.2.2.1.getD v20.toNat ([],0,0,0,0)).2).1) 0 (wi64 ((n.1.length:Int)-1))).bind fun r9=>
 bif !r9 then(
 some (.inr (.inr 8)))
 else(
 some (.inl (wi64 (v20+1)))))
 else(
 some (.inr (.inl ())))
def qeG(n:yB0)(v21:Int):Option (Int⊕(Unit⊕Int)):=
 bif decide (v21<(n.2.1.length:Int)) then(
 gd (inB v21 n.2.1.length)<|
 (qfp ((n.2.1.getD v21.toNat ([],0,0,0,0,0,[])).1,((n.2.1.getD v21.toNat ([],0,0,0,0,0,[])).2).1,(((n.2.1.getD v21.toNat ([],0,0,0,0,0,[])).2).2).1,((((n.2.1.getD v21.toNat ([],0,0,0,0,0,[])).2).2).2).1,(((((n.2.1.getD v21.toNat ([],0,0,0,0,0,[])).2).2).2).2).1,((((((n.2.1.getD v21.toNat ([],0,0,0,0,0,[])).2).2).2).2).2).1,((((((n.2.1.getD v21.toNat ([],0,0,0,0,0,[])).2).2).2).2).2).2)).bind fun r10=>
 bif !r10 then(
 some (.inr (.inr 9)))
 else(
 some (.inl (wi64 (v21+1)))))
 else(
 some (.inr (.inl ())))
def qd0(n:yB0)(v22:Int):Option (Int⊕(Unit⊕Int)):=
 bif decide (v22<(n.2.2.1.length:Int)) then(
 gd (inB v22 n.2.2.1.length)<|
 (qbA (((n.2.2.1.getD v22.toNat ([],0,0)).2).2) 0 100000000).bind fun r11=>
 bif !r11 then(
 some (.inr (.inr 9)))
 else(
 some (.inl (wi64 (v22+1)))))
 else(
 some (.inr (.inl ())))
def qd1(n:yB0)(v23:Int):Option (Int⊕(Unit⊕Int)):=
 bif decide (v23<(n.2.2.2.1.length:Int)) then(
 gd (inB v23 n.2.2.2.1.length)<|
 Option.bind (α:=Bool) (
 (qbA ((((n.2.2.2.1.getD v23.toNat ([],0,0,0,0)).2).2).1) 0 100000000).bind fun r12=>
 bif !r12 then(
 some true)
 else(
 (qbA (((((n.2.2.2.1.getD v23.toNat ([],0,0,0,0)).2).2).2).1) 0 100000).bind fun r13=>
 bif !r13 then(
 some true)
 else(
 (qbA (((((n.2.2.2.1.getD v23.toNat ([],0,0,0,0)).2).2).2).2) 0 100000000).bind fun r14=>
 some (!r14)))) fun s36=>
 bif s36 then(
 some (.inr (.inr 9)))
 else(
 some (.inl (wi64 (v23+1)))))
 else(
 some (.inr (.inl ())))
def qd2(n:yB0):Option (Int):=
 Option.bind (α:=Bool) (
 (qbA (n.1.length:Int) 1 24).bind fun r=>
 bif !r then(
 some true)
 else(
 bif decide (32<(n.2.1.length:Int)) then(
 some true)
 else(
 bif decide (24<(n.2.2.1.length:Int)) then(
 some true)
 else(
 some (decide (12<(n.2.2.2.1.length:Int))))))) fun s=>
 bif s then(
 some 4)
 else(
 (iter (fun x=>qeC n x) 0).bind fun s2=>
 s2.elim (fun s3=>
 (qol (n.1,n.2.1,n.2.2.1,n.2.2.2.1,n.2.2.2.2.1,n.2.2.2.2.2)).bind fun r3=>
 (iter (fun x3=>qgy x3.1 x3.2.1 x3.2.2.1 x3.2.2.2.1 x3.2.2.2.2) (r3.1,r3.2.1,r3.2.2.1,r3.2.2.2,0)).bind fun s8=>
 s8.elim (fun s9=>
 (iter (fun x4=>qgz x4.1 x4.2.1 x4.2.2.1 x4.2.2.2.1 x4.2.2.2.2) (r3.1,r3.2.1,r3.2.2.1,r3.2.2.2,0)).bind fun s11=>
 s11.elim (fun s12=>
 (iter (fun x6=>qgB n x6) 0).bind fun s17=>
 s17.elim (fun s18=>
 (iter (fun x7=>qeD n x7) 0).bind fun s21=>
 s21.elim (fun s22=>
 (iter (fun x8=>qeE n x8) 0).bind fun s24=>
 s24.elim (fun s25=>
 (iter (fun x9=>qeF n x9) 0).bind fun s27=>
 s27.elim (fun s28=>
 (iter (fun x10=>qeG n x10) 0).bind fun s30=>
 s30.elim (fun s31=>
 (iter (fun x11=>qd0 n x11) 0).bind fun s33=>
 s33.elim (fun s34=>
 (iter (fun x12=>qd1 n x12) 0).bind fun s37=>
 s37.elim (fun s38=>
 Option.bind (α:=Bool) (
 (qbA n.2.2.2.2.1 (-100000) 100000000).bind fun r15=>
 bif !r15 then(
 some true)
 else(
 (qbA n.2.2.2.2.2 0 100).bind fun r16=>
 some (!r16))) fun s40=>
 bif s40 then(
 some 9)
 else(
 some 0))
 (fun s39=>
 some s39))
 (fun s35=>
 some s35))
 (fun s32=>
 some s32))
 (fun s29=>
 some s29))
 (fun s26=>
 some s26))
 (fun s23=>
 some s23))
 (fun s19=>
 some s19))
 (fun s13=>
 some s13))
 (fun s10=>
 some s10))
 (fun s4=>
 some s4))
def qdD:Fun:=
 ⟨48,1,1,
 ⟨[(0,dd tT0)],[],[]⟩,
 ⟨[(0,ii)],[],[]⟩,
 fun x=>qd2 x⟩
theorem qeH:FO qdD:=fi [] [qok,qnH,qfV,qnI,ql8] 219 [] ((nn (mm (mm (.mk [.join [⟨.n,⟨[(1,pt 32 0),(49,bb)],v7_,[]⟩⟩]] none .nil .nil) .nil) (mm (nn (mm (.mk [] (some (⟨[(1,pt 32 0),(51,kk),(52,kk),(53,ii)],v7_,[]⟩,[⟨.x 0,⟨[(1,pt 32 0)],v7_,[]⟩⟩,⟨.r,⟨[(2,ii)],[],[]⟩⟩])) .nil .nil) .nil)) (nn (mm (nn (mm (.mk [] (some (⟨[(1,pt 32 0),(5,pt 96 0),(65,.agg [.data (.sl (.str)),.data (.sl (.str)),.data (.sl (.str)),.data (.sl (.str))]),(66,ii)],v101_,[]⟩,[⟨.x 2,⟨[(1,pt 32 0),(5,pt 96 0)],v101_,[]⟩⟩,⟨.r,⟨[(2,ii)],[],[]⟩⟩])) (nn (nn (mm (mm (nn (nn (mm (.mk [] (some (⟨[(1,pt 32 0),(5,pt 96 0),(65,.agg [.data (.sl (.str)),.data (.sl (.str)),.data (.sl (.str)),.data (.sl (.str))]),(66,kk),(69,kk),(70,kk),(71,ii)],v101_,[]⟩,[⟨.x 4,⟨[(1,pt 32 0),(5,pt 96 0),(65,.agg [.data (.sl (.str)),.data (.sl (.str)),.data (.sl (.str)),.data (.sl (.str))]),(66,kk)],v101_,[]⟩⟩,⟨.r,⟨[(2,ii)],[],[]⟩⟩])) .nil .nil) .nil))) .nil) .nil))) .nil) .nil)) (mm (nn (mm (.mk [] (some (⟨[(1,pt 32 0),(80,.agg [.data (.sl (.str)),.data (.sl (.str)),.data (.sl (.str)),.data (.sl (.str))]),(81,ii)],v7_,[]⟩,[⟨.x 6,⟨[(1,pt 32 0)],v7_,[]⟩⟩,⟨.r,⟨[(2,ii)],[],[]⟩⟩])) .nil .nil) .nil)) (mm (nn (mm (.mk [] (some (⟨[(1,pt 32 0),(89,kk),(90,ii)],v7_,[]⟩,[⟨.x 8,⟨[(1,pt 32 0)],v7_,[]⟩⟩,⟨.r,⟨[(2,ii)],[],[]⟩⟩])) (nn (nn (mm (mm (nn (nn (mm (.mk [] (some (⟨[(1,pt 32 0),(12,kk),(13,ii),(89,kk),(90,kk)],v7_,[]⟩,[⟨.x 10,⟨[(1,pt 32 0),(89,kk),(90,kk)],v7_,[]⟩⟩,⟨.r,⟨[(2,ii)],[],[]⟩⟩])) .nil .nil) .nil))) .nil) .nil))) .nil) .nil)) (nn (mm (nn (mm (.mk [] (some (⟨[(1,pt 32 0),(14,kk),(117,kk),(118,kk),(119,ii)],v7_,[]⟩,[⟨.x 12,⟨[(1,pt 32 0),(14,kk)],v7_,[]⟩⟩,⟨.r,⟨[(2,ii)],[],[]⟩⟩])) (nn (nn (mm (mm (nn (mm (.mk [.join [⟨.n,⟨[(1,pt 32 0),(14,kk),(117,kk),(118,kk),(119,kk),(134,bb)],v7_,[]⟩⟩]] none .nil .nil) .nil)) .nil) .nil))) .nil) .nil)) (mm (nn (mm (.mk [] (some (⟨[(1,pt 32 0),(14,kk),(137,kk),(138,kk),(139,ii)],v7_,[]⟩,[⟨.x 14,⟨[(1,pt 32 0),(14,kk)],v7_,[]⟩⟩,⟨.r,⟨[(2,ii)],[],[]⟩⟩])) .nil .nil) .nil)) (mm (nn (mm (.mk [] (some (⟨[(1,pt 32 0),(14,kk),(150,kk),(151,kk),(152,ii)],v7_,[]⟩,[⟨.x 16,⟨[(1,pt 32 0)],v7_,[]⟩⟩,⟨.r,⟨[(2,ii)],[],[]⟩⟩])) .nil .nil) .nil)) (mm (nn (mm (.mk [] (some (⟨[(1,pt 32 0),(163,kk),(164,kk),(165,ii)],v7_,[]⟩,[⟨.x 18,⟨[(1,pt 32 0)],v7_,[]⟩⟩,⟨.r,⟨[(2,ii)],[],[]⟩⟩])) .nil .nil) .nil)) (mm (nn (mm (.mk [] (some (⟨[(1,pt 32 0),(174,kk),(175,kk),(176,ii)],v7_,[]⟩,[⟨.x 20,⟨[(1,pt 32 0)],v7_,[]⟩⟩,⟨.r,⟨[(2,ii)],[],[]⟩⟩])) .nil .nil) .nil)) (mm (nn (mm (.mk [] (some (⟨[(1,pt 32 0),(186,kk),(187,kk),(188,ii)],v7_,[]⟩,[⟨.x 22,⟨[(1,pt 32 0)],v7_,[]⟩⟩,⟨.r,⟨[(2,ii)],[],[]⟩⟩])) (nn (nn (mm (mm (nn (mm (.mk [.join [⟨.n,⟨[(1,pt 32 0),(186,kk),(187,kk),(188,kk),(207,bb)],v7_,[]⟩⟩]] none .nil .nil) .nil)) .nil) .nil))) .nil) .nil)) (mm (mm (.mk [.join [⟨.n,⟨[(218,bb)],[],[]⟩⟩]] none .nil .nil) .nil) .nil)))))))))))))))) func48 ⟨⟨qsb,qsZ,qhT,qs0,qsc,trivial⟩,trivial⟩
def qdj(n:yB0):Option (Int):=
 some (wi64 ((n.2.1.length:Int)+(n.2.2.1.length:Int)))
def qe6:Fun:=
 ⟨90,1,1,
 ⟨[(0,dd tT0)],[],[]⟩,
 ⟨[(0,ii)],[],[]⟩,
 fun x=>qdj x⟩
theorem qhq:FO qe6:=fi [] [] 10 [] .nil func90 ⟨trivial,trivial⟩
def qhU(n:yB0)(travel:Int)(i:Int)(d:yB4)(d2:List Int)(d3:List Int)(d4:List Bool):Option (yB10⊕(yB4×List Int×List Int×List Bool)):=
 (qdj (n.1,n.2.1,n.2.2.1,n.2.2.2.1,n.2.2.2.2.1,n.2.2.2.2.2)).bind fun r2=>
 bif decide (i<r2) then(
 gd (fits (d.length+1) 24)<|
 some (.inl (wi64 (i+1),d++[(travel,(0,(false,false)))],d2,d3,d4)))
 else(
 some (.inr (d,d2,d3,d4)))
def qmT(n:yB0)(travel:Int):Option (yB5×Int):=
 (qd2 (n.1,n.2.1,n.2.2.1,n.2.2.2.1,n.2.2.2.2.1,n.2.2.2.2.2)).bind fun r=>
 bif !decide (r=0) then(
 some (([],([],([],[]))),r))
 else(
 Option.bind (α:=Bool) (
 bif decide (travel<1) then(
 some true)
 else(
 some (decide (60<travel)))) fun s=>
 bif s then(
 some (([],([],([],[]))),20))
 else(
 gd (makeG 8 (n.2.1.length:Int))<|
 gd (makeG 8 (n.2.2.1.length:Int))<|
 gd (makeG 1 (n.2.2.2.1.length:Int))<|
 (iter (fun x=>qhU n travel x.1 x.2.1 x.2.2.1 x.2.2.2.1 x.2.2.2.2) (0,[],List.replicate (n.2.1.length:Int).toNat (0:Int),List.replicate (n.2.2.1.length:Int).toNat (0:Int),List.replicate (n.2.2.2.1.length:Int).toNat (false:Bool))).bind fun s2=>
 some ((s2.1,(s2.2.1,(s2.2.2.1,s2.2.2.2))),0)))
def qpi:Fun:=
 ⟨35,2,2,
 ⟨r144_,[],[]⟩,
 ⟨r48_,[],[]⟩,
 fun x=>qmT x.1 x.2⟩
theorem qur:FO qpi:=fi [] [qdD,qe6] 50 [] ((nn (nn (mm (mm (.mk [.join [⟨.n,⟨[(1,kk),(2,pt 48 0),(4,pt 80 0),(20,bb)],[(48,32,kp 6),(80,44,kp 4)],[]⟩⟩]] none .nil .nil) .nil) (nn (mm (nn (mm (.mk [] (some (⟨[(1,kk),(2,pt 48 0),(4,pt 80 0),(7,pt 128 0),(8,ii)],[(48,32,kp 6),(80,44,kp 4),(128,44,[.own 2073,.own 416,.own 480,.own 544])],a93_⟩,[⟨.x 0,⟨[(4,pt 80 0),(7,pt 128 0)],[(80,44,kp 4),(128,44,[.own 2073,.own 416,.own 480,.own 544])],a93_⟩⟩])) .nil .nil) .nil)) .nil)))))) func35 ⟨⟨qeH,qhq,trivial⟩,trivial⟩
def ql9(n:yB0)(travel:Int):Option (yB11×Int):=
 (qmT (n.1,n.2.1,n.2.2.1,n.2.2.2.1,n.2.2.2.2.1,n.2.2.2.2.2) travel).bind fun r=>
 bif !decide (r.2=0) then(
 some ((([],([],([],[]))),([],([],0))),r.2))
 else(
 some (((r.1.1,(r.1.2.1,(r.1.2.2.1,r.1.2.2.2))),([],([],0))),0))
def qma:Fun:=
 ⟨13,2,2,
 ⟨r144_,[],[]⟩,
 ⟨r26_,[],[]⟩,
 fun x=>ql9 x.1 x.2⟩
theorem qqA:FO qma:=fi [] [qpi] 20 [] .nil func13 ⟨⟨qur,trivial⟩,trivial⟩
def qep(i:Int)(s3:List Int)(s4:Int)(t:List Int):Option ((Int×List Int×Int×List Int)⊕(List Int×Int×List Int)):=
 bif decide (0<i) then(
 (qap ([0,(-1),62,63,(-63),(-62),9007199254740992,(-9007199254740992),126,1000]:List Int) s3 s4).bind fun r6=>
 gd (fits (t.length+1) 8)<|
 some (.inl (wi64 (i-1),r6.2.1,r6.2.2,t++[r6.1])))
 else(
 some (.inr (s3,s4,t)))
def qeg(station:Int)(s:List Int)(s2:Int):Option (yB3×List Int×Int):=
 (qab 3 s s2).bind fun r=>
 (qab 6 r.2.1 r.2.2).bind fun r2=>
 (qap ([0,125,63,62,1099511627776]:List Int) r2.2.1 r2.2.2).bind fun r3=>
 (qab 64 r3.2.1 r3.2.2).bind fun r4=>
 (qab 4 r4.2.1 r4.2.2).bind fun r5=>
 (iter (fun x=>qep x.1 x.2.1 x.2.2.1 x.2.2.2) (r5.1,r5.2.1,r5.2.2,[])).bind fun s5=>
 some ((station,r.1,r2.1,r3.1,r4.1,s5.2.2),s5.1,s5.2.1)
def qhB:Fun:=
 ⟨71,2,1,
 ⟨r143_,v3_,[]⟩,
 ⟨[(0,dd tT3)],v3_,[]⟩,
 fun x=>qeg x.1 x.2.1 x.2.2⟩
theorem qnk:FO qhB:=fi [] [qa8,qb3] 33 [] ((nn (nn (mm (nn (mm (.mk [] (some (⟨[(0,pt 0 0),(4,pt 80 0),(5,pt 96 0),(6,ii)],[(0,87,[.data (.sl I6),.data I6]),(80,108,kp 6),(96,108,[.keep,.keep,.keep,.keep,.keep,.own 1641])],[(1641,.arr 3 I6)]⟩,[⟨.x 0,⟨[(4,pt 80 0),(5,pt 96 0)],[(80,108,kp 6),(96,108,[.keep,.keep,.keep,.keep,.keep,.own 1641]),(0,87,[.data (.sl I6),.data I6])],[(1641,.arr 3 I6)]⟩⟩])) .nil .nil) .nil)) .nil)))) func71 ⟨⟨qbk,qcA,trivial⟩,trivial⟩
def qhV(l:List (List UInt8))(s:List Int)(s2:Int):Option (List UInt8×List Int×Int):=
 (qab (l.length:Int) s s2).bind fun r=>
 gd (inB r.1 l.length)<|
 some (l.getD r.1.toNat [],r.2.1,r.2.2)
def qlb:Fun:=
 ⟨142,2,1,
 ⟨[(0,pt 0 0),(1,dd (.sl (.str)))],v3_,[]⟩,
 ⟨[(0,ss)],v3_,[]⟩,
 fun x=>qhV x.1 x.2.1 x.2.2⟩
theorem qqS:FO qlb:=fi [] [qa8] 12 [] .nil func142 ⟨⟨qbk,trivial⟩,trivial⟩
def qgj(i:Int)(s3:List Int)(s4:Int)(l:List (List UInt8×Int×Int)):Option ((Int×List Int×Int×List (List UInt8×Int×Int))⊕(List Int×Int×List (List UInt8×Int×Int))):=
 bif decide (0<i) then(
 (qhV ([[97],[98,111],[99,51],[100,101,108,116,97],[101]]:List (List UInt8)) s3 s4).bind fun r2=>
 (qab 4 r2.2.1 r2.2.2).bind fun r3=>
 (qab 1000 r3.2.1 r3.2.2).bind fun r4=>
 (qap [0,1,50,r4.1,1073741824] r4.2.1 r4.2.2).bind fun r5=>
 Option.bind (α:=Bool×List Int×Int×List (List UInt8×Int×Int)) (
 bif decide (wi64 (1+r3.1)=4) then(
 (qab 2 r5.2.1 r5.2.2).bind fun r6=>
 some (decide (r6.1=0),r6.2.1,r6.2.2,l))
 else(
 some (false,r5.2.1,r5.2.2,l))) fun s5=>
 Option.bind (α:=Int×List (List UInt8×Int×Int)) (
 bif s5.1 then(
 some (wi64 (0-r5.1),s5.2.2.2))
 else(
 some (r5.1,s5.2.2.2))) fun s6=>
 gd (fits (s6.2.length+1) 32)<|
 some (.inl (wi64 (i-1),s5.2.1,s5.2.2.1,s6.2++[(r2.1,(wi64 (1+r3.1),s6.1))])))
 else(
 some (.inr (s3,s4,l)))
def qgC(most:Int)(s:List Int)(s2:Int):Option (List Int×Int×List (List UInt8×Int×Int)):=
 (qab (wi64 (most+1)) s s2).bind fun r=>
 (iter (fun x=>qgj x.1 x.2.1 x.2.2.1 x.2.2.2) (r.1,r.2.1,r.2.2,[])).bind fun s7=>
 some (s7.1,s7.2.1,s7.2.2)
def qjO:Fun:=
 ⟨72,2,1,
 ⟨r143_,v3_,[]⟩,
 ⟨[(0,ow 1)],v3_,[(1,.arr 59 tT7)]⟩,
 fun x=>qgC x.1 x.2.1 x.2.2⟩
theorem qp8:FO qjO:=fi [] [qa8,qlb,qb3] 45 [] ((nn (nn (mm (nn (mm (.mk [] (some (⟨[(0,pt 0 0),(5,ow 107),(6,ii)],v3_,[(107,.arr 59 tT7)]⟩,[⟨.x 0,⟨[(5,ow 107)],v3_,[(107,.arr 59 tT7)]⟩⟩])) (nn (mm (mm (nn (mm (mm (.mk [.join [⟨.n,⟨[(0,pt 0 0),(5,ow 107),(6,kk),(7,pt 128 0),(35,bb)],[(0,87,[.data (.sl I6),.data I6]),(128,59,[.keep,.keep,.keep])],[(107,.arr 59 tT7)]⟩⟩]] none .nil .nil) (.mk [.join [⟨.n,⟨[(0,pt 0 0),(5,ow 107),(6,kk),(7,pt 128 0)],[(0,87,[.keep,.keep]),(128,59,[.keep,.keep,.data I6])],[(107,.arr 59 tT7)]⟩⟩]] none .nil .nil)) .nil)) .nil) .nil)) .nil) .nil)) .nil)))) func72 ⟨⟨qbk,qqS,qcA,trivial⟩,trivial⟩
def qus(n:Int):Option (Int):=
 some (max n (wi64 (0-n)))
def qsd:Fun:=
 ⟨220,1,1,
 ⟨[(0,ii)],[],[]⟩,
 ⟨[(0,ii)],[],[]⟩,
 fun x=>qus x⟩
theorem qwX:FO qsd:=fi [] [] 7 [] .nil func220 ⟨trivial,trivial⟩
def qmb(p:yB7)(v:Int)(out:List Int)(out2:List Bool):Option ((Int×List Int×List Bool)⊕(List Int×List Bool)):=
 bif decide (v<(p.1.length:Int)) then(
 gd (inB v p.1.length)<|
 gd (fits (out.length+1) 8)<|
 some (.inl (wi64 (v+1),out++[wi64 (0-(p.1.getD v.toNat 0))],out2)))
 else(
 some (.inr (out,out2)))
def qmc(p:yB7)(v2:Int)(out3:List Int)(out4:List Int)(out5:List Bool):Option ((Int×List Int×List Int×List Bool)⊕yB7):=
 bif decide (v2<(p.2.1.length:Int)) then(
 gd (inB v2 p.2.1.length)<|
 gd (fits (out4.length+1) 8)<|
 some (.inl (wi64 (v2+1),out3,out4++[wi64 (0-(p.2.1.getD v2.toNat 0))],out5)))
 else(
 some (.inr (out3,out4,out5)))
def qi3(p:yB7):Option yB7:=
 gd (fits (0+p.2.2.length) 1)<|
 (iter (fun x=>qmb p x.1 x.2.1 x.2.2) (0,[],[]++p.2.2)).bind fun s=>
 (iter (fun x2=>qmc p x2.1 x2.2.1 x2.2.2.1 x2.2.2.2) (0,s.1,[],s.2)).bind fun s2=>
 some (s2.1,s2.2.1,s2.2.2)
def qmd:Fun:=
 ⟨221,1,1,
 ⟨[(0,dd tT6)],[],[]⟩,
 ⟨[(0,dd tT6)],[],[]⟩,
 fun x=>qi3 x⟩
theorem qse:FO qmd:=fi [6] [] 48 [] ((nn (nn (mm (nn (mm (.mk [] (some (⟨[(1,pt 32 0),(2,pt 48 0),(3,pt 64 0),(13,kk),(14,ii)],v64_,[(1049,.arr 3 I6),(160,.arr 4 (.bool))]⟩,[⟨.x 0,⟨r41_,v64_,[(1049,.arr 3 I6),(160,.arr 4 (.bool))]⟩⟩])) .nil .nil) .nil)) (mm (nn (mm (.mk [] (some (⟨[(1,pt 32 0),(2,pt 48 0),(3,pt 64 0),(31,kk),(32,ii)],[(32,42,[.keep,.keep,.keep]),(48,42,[.keep,.keep,.keep]),(64,42,[.own 1049,.own 1065,.own 160])],a124_⟩,[⟨.x 2,⟨r29_,[(48,42,[.keep,.keep,.keep]),(64,42,[.own 1049,.own 1065,.own 160])],a124_⟩⟩])) .nil .nil) .nil)) .nil))))) func221 ⟨trivial,trivial⟩
def qlc(n:yB0)(i:Int)(s3:List Int)(s4:Int)(p:List Int)(p2:List Int)(p3:List Bool):Option ((Int×List Int×Int×List Int×List Int×List Bool)⊕(List Int×Int×List Int×List Int×List Bool)):=
 bif decide (i<(n.2.2.2.1.length:Int)) then(
 (qab 2 s3 s4).bind fun r=>
 gd (fits (p3.length+1) 1)<|
 some (.inl (wi64 (i+1),r.2.1,r.2.2,p,p2,p3++[decide (r.1=0)])))
 else(
 some (.inr (s3,s4,p,p2,p3)))
def qe7(n:yB0)(r4:Int×List Int×Int)(r6:Int×List Int×Int)(vat:Int)(vend2:Int)(v:Int)(s11:List Int)(s12:Int)(way2:List Int)(p10:List Int)(p11:List Int)(p12:List Bool):Option ((Int×Int×List Int×Int×List Int×List Int×List Int×List Bool)⊕(Int×List Int×Int×List Int×List Int×List Int×List Bool)):=
 bif decide (v<(n.2.2.1.length:Int)) then(
 gd (inB v n.2.2.1.length)<|
 Option.bind (α:=Bool×List Int×Int×List Int×List Int×List Int×List Bool) (
 bif decide (((n.2.2.1.getD v.toNat ([],0,0)).2).1=vat) then(
 bif !decide (v=r4.1) then(
 gd (inB v p11.length)<|
 bif decide (p11.getD v.toNat 0<=0) then(
 gd (inB v p11.length)<|
 bif decide ((-1000)<=wi64 ((p11.getD v.toNat 0)-r6.1)) then(
 bif decide (0<(way2.length:Int)) then(
 (qab 2 s11 s12).bind fun r7=>
 some (decide (r7.1=0),r7.2.1,r7.2.2,way2,p10,p11,p12))
 else(
 some (false,s11,s12,way2,p10,p11,p12)))
 else(
 some (false,s11,s12,way2,p10,p11,p12)))
 else(
 some (false,s11,s12,way2,p10,p11,p12)))
 else(
 some (false,s11,s12,way2,p10,p11,p12)))
 else(
 some (false,s11,s12,way2,p10,p11,p12))) fun s13=>
 Option.bind (α:=Int×List Int×List Int×List Int×List Bool) (
 bif s13.1 then(
 some (v,s13.2.2.2.1,s13.2.2.2.2.1,s13.2.2.2.2.2.1,s13.2.2.2.2.2.2))
 else(
 some (vend2,s13.2.2.2.1,s13.2.2.2.2.1,s13.2.2.2.2.2.1,s13.2.2.2.2.2.2))) fun s14=>
 some (.inl (s14.1,wi64 (v+1),s13.2.1,s13.2.2.1,s14.2.1,s14.2.2.1,s14.2.2.2.1,s14.2.2.2.2)))
 else(
 some (.inr (vend2,s11,s12,way2,p10,p11,p12)))
def qe8(n:yB0)(r6:Int×List Int×Int)(vat:Int)(v2:Int)(way3:List Int)(out:List Int)(p13:List Int)(p14:List Int)(p15:List Bool):Option ((Int×List Int×List Int×List Int×List Int×List Bool)⊕(List Int×List Int×List Int×List Int×List Bool)):=
 bif decide (v2<(n.2.1.length:Int)) then(
 gd (inB v2 n.2.1.length)<|
 Option.bind (α:=Bool×List Int×List Int×List Int×List Int×List Bool) (
 bif decide (((n.2.1.getD v2.toNat ([],0,0,0,0,0,[])).2).1=vat) then(
 bif decide (vat<wi64 ((wi64 ((((n.2.1.getD v2.toNat ([],0,0,0,0,0,[])).2).1)+((((n.2.1.getD v2.toNat ([],0,0,0,0,0,[])).2).2).1)))-vat)) then(
 gd (inB v2 p13.length)<|
 (qus (p13.getD v2.toNat 0)).bind fun r8=>
 some (decide (wi64 (r8+r6.1)<=min 1000 (((((n.2.1.getD v2.toNat ([],(0,(0,(0,(0,(0,[]))))))).2).2).2).1)),way3,out,p13,p14,p15))
 else(
 some (false,way3,out,p13,p14,p15)))
 else(
 bif decide ((((n.2.1.getD v2.toNat ([],0,0,0,0,0,[])).2).2).1=vat) then(
 bif decide (vat<wi64 ((wi64 ((((n.2.1.getD v2.toNat ([],0,0,0,0,0,[])).2).1)+((((n.2.1.getD v2.toNat ([],0,0,0,0,0,[])).2).2).1)))-vat)) then(
 gd (inB v2 p13.length)<|
 (qus (p13.getD v2.toNat 0)).bind fun r9=>
 some (decide (wi64 (r9+r6.1)<=min 1000 (((((n.2.1.getD v2.toNat ([],(0,(0,(0,(0,(0,[]))))))).2).2).2).1)),way3,out,p13,p14,p15))
 else(
 some (false,way3,out,p13,p14,p15)))
 else(
 some (false,way3,out,p13,p14,p15)))) fun s16=>
 Option.bind (α:=List Int×List Int×List Int×List Int×List Bool) (
 bif s16.1 then(
 gd (fits (s16.2.2.1.length+1) 8)<|
 some (s16.2.1,s16.2.2.1++[v2],s16.2.2.2.1,s16.2.2.2.2.1,s16.2.2.2.2.2))
 else(
 some (s16.2.1,s16.2.2.1,s16.2.2.2.1,s16.2.2.2.2.1,s16.2.2.2.2.2))) fun s17=>
 some (.inl (wi64 (v2+1),s17.1,s17.2.1,s17.2.2.1,s17.2.2.2.1,s17.2.2.2.2)))
 else(
 some (.inr (way3,out,p13,p14,p15)))
def qe9(n:yB0)(r4:Int×List Int×Int)(r6:Int×List Int×Int)(vat:Int)(vend:Int)(s9:List Int)(s10:Int)(way:List Int)(p7:List Int)(p8:List Int)(p9:List Bool):Option ((Int×Int×List Int×Int×List Int×List Int×List Int×List Bool)⊕(Int×List Int×Int×List Int×List Int×List Int×List Bool)):=
 bif decide (vend<0) then(
 (iter (fun x2=>qe7 n r4 r6 vat x2.1 x2.2.1 x2.2.2.1 x2.2.2.2.1 x2.2.2.2.2.1 x2.2.2.2.2.2.1 x2.2.2.2.2.2.2.1 x2.2.2.2.2.2.2.2) (vend,0,s9,s10,way,p7,p8,p9)).bind fun s15=>
 bif decide (0<=s15.1) then(
 some (.inr (s15.1,s15.2.1,s15.2.2.1,s15.2.2.2.1,s15.2.2.2.2.1,s15.2.2.2.2.2.1,s15.2.2.2.2.2.2)))
 else(
 (iter (fun x3=>qe8 n r6 vat x3.1 x3.2.1 x3.2.2.1 x3.2.2.2.1 x3.2.2.2.2.1 x3.2.2.2.2.2) (0,s15.2.2.2.1,[],s15.2.2.2.2.1,s15.2.2.2.2.2.1,s15.2.2.2.2.2.2)).bind fun s18=>
 bif decide ((s18.2.1.length:Int)=0) then(
 some (.inr (s15.1,s15.2.1,s15.2.2.1,s18.1,s18.2.2.1,s18.2.2.2.1,s18.2.2.2.2)))
 else(
 (qab (s18.2.1.length:Int) s15.2.1 s15.2.2.1).bind fun r10=>
 gd (inB r10.1 s18.2.1.length)<|
 gd (fits (s18.1.length+1) 8)<|
 gd (inB (s18.2.1.getD r10.1.toNat 0) n.2.1.length)<|
 gd (inB (s18.2.1.getD r10.1.toNat 0) n.2.1.length)<|
 some (.inl (wi64 ((wi64 ((((n.2.1.getD (s18.2.1.getD r10.1.toNat 0).toNat ([],(0,(0,(0,(0,(0,[]))))))).2).1)+((((n.2.1.getD (s18.2.1.getD r10.1.toNat 0).toNat ([],(0,(0,(0,(0,(0,[]))))))).2).2).1)))-vat),s15.1,r10.2.1,r10.2.2,s18.1++[s18.2.1.getD r10.1.toNat 0],s18.2.2.1,s18.2.2.2.1,s18.2.2.2.2)))))
 else(
 some (.inr (vend,s9,s10,way,p7,p8,p9)))
def qfa(n:yB0)(r6:Int×List Int×Int)(s19:Int×List Int×Int×List Int×List Int×List Int×List Bool)(v3:Int)(v4:List Int)(p16:List Int)(p17:List Int)(p18:List Bool):Option ((Int×List Int×List Int×List Int×List Bool)⊕yB7):=
 bif decide (v3<(s19.2.2.2.1.length:Int)) then(
 gd (inB v3 v4.length)<|
 gd (inB (v4.getD v3.toNat 0) n.2.1.length)<|
 gd (inB (v4.getD v3.toNat 0) n.2.1.length)<|
 Option.bind (α:=List Int×List Int×List Int×List Bool) (
 bif decide (((n.2.1.getD (v4.getD v3.toNat 0).toNat ([],0,0,0,0,0,[])).2).1<(((n.2.1.getD (v4.getD v3.toNat 0).toNat ([],0,0,0,0,0,[])).2).2).1) then(
 gd (inB (v4.getD v3.toNat 0) p16.length)<|
 gd (inB (v4.getD v3.toNat 0) p16.length)<|
 some (v4,p16.set ((v4.getD v3.toNat 0).toNat) (wi64 ((p16.getD ((v4.getD v3.toNat 0).toNat) 0)+r6.1)),p17,p18))
 else(
 gd (inB (v4.getD v3.toNat 0) p16.length)<|
 gd (inB (v4.getD v3.toNat 0) p16.length)<|
 some (v4,p16.set ((v4.getD v3.toNat 0).toNat) (wi64 ((p16.getD ((v4.getD v3.toNat 0).toNat) 0)-r6.1)),p17,p18))) fun s20=>
 some (.inl (wi64 (v3+1),s20.1,s20.2.1,s20.2.2.1,s20.2.2.2)))
 else(
 some (.inr (p16,p17,p18)))
def qhr(n:yB0)(streams:Int)(s6:List Int)(s7:Int)(p4:List Int)(p5:List Int)(p6:List Bool):Option ((Int×List Int×Int×List Int×List Int×List Bool)⊕(List Int×Int×List Int×List Int×List Bool)):=
 bif decide (0<streams) then(
 Option.bind (α:=List Int×Int×List Int×List Int×List Bool) (
 (qab (n.2.2.1.length:Int) s6 s7).bind fun r4=>
 gd (inB r4.1 n.2.2.1.length)<|
 (qap ([1,5,30,300]:List Int) r4.2.1 r4.2.2).bind fun r5=>
 (qa5 1 r5.1 r5.2.1 r5.2.2).bind fun r6=>
 Option.bind (α:=Bool×List Int×List Int×List Bool) (
 gd (inB r4.1 p5.length)<|
 bif decide (p5.getD r4.1.toNat 0<0) then(
 some (true,p4,p5,p6))
 else(
 gd (inB r4.1 p5.length)<|
 some (decide (1000<wi64 ((p5.getD r4.1.toNat 0)+r6.1)),p4,p5,p6))) fun s8=>
 bif s8.1 then(
 some (r6.2.1,r6.2.2,s8.2.1,s8.2.2.1,s8.2.2.2))
 else(
 (iter (fun x4=>qe9 n r4 r6 x4.1 x4.2.1 x4.2.2.1 x4.2.2.2.1 x4.2.2.2.2.1 x4.2.2.2.2.2.1 x4.2.2.2.2.2.2.1 x4.2.2.2.2.2.2.2) (((n.2.2.1.getD r4.1.toNat ([],0,0)).2).1,(-1),r6.2.1,r6.2.2,[],s8.2.1,s8.2.2.1,s8.2.2.2)).bind fun s19=>
 bif decide (s19.1<0) then(
 some (s19.2.1,s19.2.2.1,s19.2.2.2.2.1,s19.2.2.2.2.2.1,s19.2.2.2.2.2.2))
 else(
 gd (inB r4.1 s19.2.2.2.2.2.1.length)<|
 gd (inB s19.1 s19.2.2.2.2.2.1.length)<|
 gd (inB r4.1 s19.2.2.2.2.2.1.length)<|
 gd (inB s19.1 (s19.2.2.2.2.2.1.set r4.1.toNat (wi64 ((s19.2.2.2.2.2.1.getD r4.1.toNat 0)+r6.1))).length)<|
 (iter (fun x5=>qfa n r6 s19 x5.1 x5.2.1 x5.2.2.1 x5.2.2.2.1 x5.2.2.2.2) (0,s19.2.2.2.1,s19.2.2.2.2.1,(s19.2.2.2.2.2.1.set r4.1.toNat (wi64 ((s19.2.2.2.2.2.1.getD r4.1.toNat 0)+r6.1))).set s19.1.toNat (wi64 ((s19.2.2.2.2.2.1.getD s19.1.toNat 0)-r6.1)),s19.2.2.2.2.2.2)).bind fun s21=>
 some (s19.2.1,s19.2.2.1,s21.1,s21.2.1,s21.2.2)))) fun s22=>
 some (.inl (wi64 (streams-1),s22.1,s22.2.1,s22.2.2.1,s22.2.2.2.1,s22.2.2.2.2)))
 else(
 some (.inr (s6,s7,p4,p5,p6)))
def qhW(n:yB0)(s:List Int)(s2:Int):Option (yB7×List Int×Int):=
 gd (makeG 8 (n.2.1.length:Int))<|
 gd (makeG 8 (n.2.2.1.length:Int))<|
 (iter (fun x=>qlc n x.1 x.2.1 x.2.2.1 x.2.2.2.1 x.2.2.2.2.1 x.2.2.2.2.2) (0,s,s2,List.replicate (n.2.1.length:Int).toNat (0:Int),List.replicate (n.2.2.1.length:Int).toNat (0:Int),[])).bind fun s5=>
 (qab 3 s5.1 s5.2.1).bind fun r2=>
 (qab 5 r2.2.1 r2.2.2).bind fun r3=>
 (iter (fun x6=>qhr n x6.1 x6.2.1 x6.2.2.1 x6.2.2.2.1 x6.2.2.2.2.1 x6.2.2.2.2.2) (r3.1,r3.2.1,r3.2.2,s5.2.2.1,s5.2.2.2.1,s5.2.2.2.2)).bind fun s23=>
 bif decide (r2.1=0) then(
 (qi3 (s23.2.2.1,s23.2.2.2.1,s23.2.2.2.2)).bind fun r11=>
 some ((r11.1,(r11.2.1,r11.2.2)),s23.1,s23.2.1))
 else(
 some ((s23.2.2.1,(s23.2.2.2.1,s23.2.2.2.2)),s23.1,s23.2.1))
def qld:Fun:=
 ⟨143,2,1,
 ⟨[(0,pt 0 0),(1,dd tT0)],v3_,[]⟩,
 ⟨[(0,dd tT6)],v3_,[]⟩,
 fun x=>qhW x.1 x.2.1 x.2.2⟩
theorem qqT:FO qld:=fi [] [qa8,qb3,qef,qsd,qmd] 279 [] ((nn (nn (mm (nn (mm (.mk [] (some (⟨[(0,pt 0 0),(3,pt 64 0),(4,pt 80 0),(5,pt 96 0),(6,ii)],v2_,a18_⟩,[⟨.x 0,⟨[(0,pt 0 0),(3,pt 64 0),(4,pt 80 0),(5,pt 96 0)],v2_,a18_⟩⟩])) .nil .nil) .nil)) (nn (mm (nn (mm (.mk [] (some (⟨[(0,pt 0 0),(3,pt 64 0),(4,pt 80 0),(5,pt 96 0),(7,kk),(8,ii)],v2_,a18_⟩,[⟨.x 2,⟨[(4,pt 80 0),(5,pt 96 0),(7,kk)],[(80,42,[.keep,.keep,.keep]),(96,42,[.own 416,.own 480,.own 1593]),(0,87,[.data (.sl I6),.data I6])],a18_⟩⟩])) (nn (mm (.mk [.join [⟨.n,⟨r104_,v2_,a18_⟩⟩]] none (nn (nn (mm (mm (.mk [.join [⟨.n,⟨[(0,pt 0 0),(3,pt 64 0),(4,pt 80 0),(5,pt 96 0),(7,kk),(8,kk),(9,kk),(10,kk),(11,kk),(86,bb)],v4_,a18_⟩⟩]] none .nil .nil) .nil) (nn (nn (mm (mm (.mk [] (some (⟨[(0,pt 0 0),(3,pt 64 0),(4,pt 80 0),(5,pt 96 0),(7,kk),(8,kk),(9,kk),(10,ii),(11,kk),(12,ow 219),(13,ii)],v2_,a10_⟩,[⟨.x 4,⟨[(0,pt 0 0),(3,pt 64 0),(4,pt 80 0),(5,pt 96 0),(7,kk),(8,kk),(9,kk),(11,kk),(12,ow 219),(13,ii)],v2_,a10_⟩⟩])) (nn (mm (mm (nn (mm (.mk [] (some (⟨[(0,pt 0 0),(3,pt 64 0),(4,pt 80 0),(5,pt 96 0),(7,kk),(8,kk),(9,kk),(10,kk),(11,kk),(12,ow 219),(13,ii),(90,kk),(91,kk),(92,ii)],v2_,a10_⟩,[⟨.x 6,⟨[(0,pt 0 0),(3,pt 64 0),(4,pt 80 0),(5,pt 96 0),(7,kk),(8,kk),(9,kk),(10,kk),(11,kk),(12,ow 219),(13,ii)],v2_,a10_⟩⟩])) (nn (nn (mm (mm (nn (mm (.mk [.join [⟨.n,⟨[(0,pt 0 0),(3,pt 64 0),(4,pt 80 0),(5,pt 96 0),(7,kk),(8,kk),(9,kk),(10,kk),(11,kk),(12,ow 219),(13,kk),(14,kk),(90,kk),(91,kk),(92,kk),(133,bb)],v2_,a10_⟩⟩]] none .nil .nil) (.mk [.join [⟨.n,⟨[(0,pt 0 0),(3,pt 64 0),(4,pt 80 0),(5,pt 96 0),(7,kk),(8,kk),(9,kk),(10,kk),(11,kk),(12,ow 219),(13,ii),(90,kk),(91,kk),(92,kk)],v4_,a10_⟩⟩]] none .nil .nil))) .nil) .nil))) .nil) .nil)) (nn (nn (mm (nn (mm (.mk [] (some (⟨[(0,pt 0 0),(3,pt 64 0),(4,pt 80 0),(5,pt 96 0),(7,kk),(8,kk),(9,kk),(10,kk),(11,kk),(12,ow 219),(13,kk),(16,ow 283),(139,kk),(140,kk),(141,ii)],v4_,a21_⟩,[⟨.x 8,⟨[(0,pt 0 0),(3,pt 64 0),(4,pt 80 0),(5,pt 96 0),(7,kk),(8,kk),(9,kk),(10,kk),(11,kk),(12,ow 219),(13,kk),(16,ow 283)],v4_,a21_⟩⟩])) (nn (nn (mm (mm (nn (mm (.mk [.join [⟨.n,⟨[(0,pt 0 0),(3,pt 64 0),(4,pt 80 0),(5,pt 96 0),(7,kk),(8,kk),(9,kk),(10,kk),(11,kk),(12,ow 219),(13,kk),(16,ow 283),(17,kk),(139,kk),(140,kk),(141,kk),(180,bb)],v4_,a21_⟩⟩]] none .nil .nil) (.mk [.join [⟨.n,⟨[(0,pt 0 0),(3,pt 64 0),(4,pt 80 0),(5,pt 96 0),(7,kk),(8,kk),(9,kk),(10,kk),(11,kk),(12,ow 219),(13,kk),(16,ow 283),(139,kk),(140,kk),(141,kk)],v4_,a21_⟩⟩]] none .nil .nil))) .nil) .nil))) .nil) .nil)) .nil)))) .nil)) .nil) .nil) (nn (nn (nn (mm (.mk [] (some (⟨[(0,pt 0 0),(3,pt 64 0),(4,pt 80 0),(5,pt 96 0),(7,kk),(8,kk),(11,kk),(239,ow 219),(240,kk),(241,ii)],v4_,a10_⟩,[⟨.x 10,⟨r104_,v4_,a18_⟩⟩])) (nn (nn (mm (mm (nn (nn (.mk [.join [⟨.n,⟨[(0,pt 0 0),(3,pt 64 0),(4,pt 80 0),(5,pt 96 0),(7,kk),(8,kk),(11,kk),(239,ow 219),(240,kk),(241,kk)],v4_,a10_⟩⟩]] none .nil .nil))) .nil) .nil))) .nil) .nil)))))))))) .nil) .nil)) .nil) .nil)) (mm (nn (mm (mm (.mk [.fz [5]] none .nil .nil) .nil) .nil)) .nil))))))) func143 ⟨⟨qbk,qcA,qgi,qwX,qse,trivial⟩,trivial⟩
def qmU(s:yB9)(rate:Int):Option (Int×Int):=
 bif decide (rate<0) then(
 some (s.2.2.1,s.2.1))
 else(
 some (s.2.1,s.2.2.1))
def qkw:Fun:=
 ⟨201,2,2,
 ⟨[(0,dd (.pair (.str) tT5)),(1,ii)],[],[]⟩,
 ⟨r60_,[],[]⟩,
 fun x=>qmU x.1 x.2⟩
theorem qpj:FO qkw:=fi [] [] 16 [] .nil func201 ⟨trivial,trivial⟩
def qme(n:Int):Option (Int):=
 some (max n (wi64 (0-n)))
def qqB:Fun:=
 ⟨202,1,1,
 ⟨[(0,ii)],[],[]⟩,
 ⟨[(0,ii)],[],[]⟩,
 fun x=>qme x⟩
theorem qvN:FO qqB:=fi [] [] 7 [] .nil func202 ⟨trivial,trivial⟩
def qdk(n:yB0)(p:yB7)(node:Int)(vin:Int)(out:Int)(v:Int):Option ((Int×Int×Int)⊕(Int×Int)):=
 bif decide (v<(n.2.1.length:Int)) then(
 Option.bind (α:=Int×Int) (
 gd (inB v n.2.1.length)<|
 gd (inB v p.1.length)<|
 bif decide (p.1.getD v.toNat 0=0) then(
 some (vin,out))
 else(
 gd (inB v p.1.length)<|
 (qmU ((n.2.1.getD v.toNat ([],0,0,0,0,0,[])).1,((n.2.1.getD v.toNat ([],0,0,0,0,0,[])).2).1,(((n.2.1.getD v.toNat ([],0,0,0,0,0,[])).2).2).1,((((n.2.1.getD v.toNat ([],0,0,0,0,0,[])).2).2).2).1,(((((n.2.1.getD v.toNat ([],0,0,0,0,0,[])).2).2).2).2).1,((((((n.2.1.getD v.toNat ([],0,0,0,0,0,[])).2).2).2).2).2).1,((((((n.2.1.getD v.toNat ([],0,0,0,0,0,[])).2).2).2).2).2).2) (p.1.getD v.toNat 0)).bind fun r=>
 Option.bind (α:=Int) (
 bif decide (r.1=node) then(
 gd (inB v p.1.length)<|
 (qme (p.1.getD v.toNat 0)).bind fun r2=>
 some (wi64 (out+r2)))
 else(
 some out)) fun s=>
 Option.bind (α:=Int) (
 bif decide (r.2=node) then(
 gd (inB v p.1.length)<|
 (qme (p.1.getD v.toNat 0)).bind fun r3=>
 some (wi64 (vin+r3)))
 else(
 some vin)) fun s2=>
 some (s2,s))) fun s3=>
 some (.inl (s3.1,s3.2,wi64 (v+1))))
 else(
 some (.inr (vin,out)))
def qdl(n:yB0)(p:yB7)(node:Int)(vin2:Int)(out2:Int)(v2:Int):Option ((Int×Int×Int)⊕(Int×Int)):=
 bif decide (v2<(n.2.2.1.length:Int)) then(
 gd (inB v2 n.2.2.1.length)<|
 Option.bind (α:=Int×Int) (
 bif decide (((n.2.2.1.getD v2.toNat ([],0,0)).2).1=node) then(
 gd (inB v2 p.2.1.length)<|
 gd (inB v2 p.2.1.length)<|
 some (wi64 (vin2+(max 0 (p.2.1.getD v2.toNat 0))),wi64 (out2+(max 0 (wi64 (0-(p.2.1.getD v2.toNat 0)))))))
 else(
 some (vin2,out2))) fun s5=>
 some (.inl (s5.1,s5.2,wi64 (v2+1))))
 else(
 some (.inr (vin2,out2)))
def qjP(n:yB0)(p:yB7)(node:Int):Option (Int×Int):=
 (iter (fun x=>qdk n p node x.1 x.2.1 x.2.2) (0,0,0)).bind fun s4=>
 (iter (fun x2=>qdl n p node x2.1 x2.2.1 x2.2.2) (s4.1,s4.2,0)).bind fun s6=>
 some (s6.1,s6.2)
def qkx:Fun:=
 ⟨118,3,2,
 ⟨r111_,[],[]⟩,
 ⟨r60_,[],[]⟩,
 fun x=>qjP x.1 x.2.1 x.2.2⟩
theorem qpk:FO qkx:=fi [] [qkw,qqB] 95 [] ((nn (nn (mm (nn (mm (.mk [] (some (⟨[(2,kk),(3,pt 64 0),(4,pt 80 0),(8,ii),(9,ii),(17,kk),(18,kk),(19,ii)],v25_,[]⟩,[⟨.x 0,⟨[(2,kk),(3,pt 64 0),(4,pt 80 0),(8,ii),(9,ii)],v25_,[]⟩⟩])) (nn (nn (mm (.mk [.join [⟨.n,⟨[(2,kk),(3,pt 64 0),(4,pt 80 0),(8,ii),(9,ii),(17,kk),(18,kk),(19,kk)],v25_,[]⟩⟩]] none (nn (nn (nn (mm (nn (.mk [.join [⟨.n,⟨[(2,kk),(3,pt 64 0),(4,pt 80 0),(8,kk),(9,ii),(10,kk),(13,kk),(17,kk),(18,kk),(19,kk)],v25_,[]⟩⟩]] none .nil .nil)) (nn (.mk [.join [⟨.n,⟨[(2,kk),(3,pt 64 0),(4,pt 80 0),(8,ii),(9,kk),(17,kk),(18,kk),(19,kk)],v25_,[]⟩⟩]] none .nil .nil)))))) .nil) .nil))) .nil) .nil)) (mm (nn (mm (.mk [] (some (⟨[(2,kk),(4,pt 80 0),(8,ii),(9,ii),(64,kk),(65,kk),(66,ii)],[(80,42,[.keep,.keep,.keep])],[]⟩,[⟨.x 2,⟨[(8,ii),(9,ii)],[],[]⟩⟩])) (nn (nn (mm (mm (nn (nn (.mk [.join [⟨.n,⟨[(2,kk),(4,pt 80 0),(8,ii),(9,ii),(64,kk),(65,kk),(66,kk)],[(80,42,[.keep,.keep,.keep])],[]⟩⟩]] none .nil .nil))) .nil) .nil))) .nil) .nil)) .nil))))) func118 ⟨⟨qpj,qvN,trivial⟩,trivial⟩
def qcT(n:yB0)(p:yB7)(v:Int)(free:Bool)(v2:Int)(out3:List Int)(there3:List Bool):Option ((Bool×Int×List Int×List Bool)⊕(Bool×List Int×List Bool)):=
 bif decide (v2<(n.2.1.length:Int)) then(
 gd (inB v2 n.2.1.length)<|
 gd (inB v2 p.1.length)<|
 Option.bind (α:=Bool×List Int×List Bool) (
 bif !decide (p.1.getD v2.toNat 0=0) then(
 gd (inB v2 p.1.length)<|
 (qmU ((n.2.1.getD v2.toNat ([],0,0,0,0,0,[])).1,((n.2.1.getD v2.toNat ([],0,0,0,0,0,[])).2).1,(((n.2.1.getD v2.toNat ([],0,0,0,0,0,[])).2).2).1,((((n.2.1.getD v2.toNat ([],0,0,0,0,0,[])).2).2).2).1,(((((n.2.1.getD v2.toNat ([],0,0,0,0,0,[])).2).2).2).2).1,((((((n.2.1.getD v2.toNat ([],0,0,0,0,0,[])).2).2).2).2).2).1,((((((n.2.1.getD v2.toNat ([],0,0,0,0,0,[])).2).2).2).2).2).2) (p.1.getD v2.toNat 0)).bind fun r=>
 Option.bind (α:=Bool×List Int×List Bool) (
 bif free then(
 bif !decide (r.2=v) then(
 some (true,out3,there3))
 else(
 gd (inB r.1 there3.length)<|
 some (there3.getD r.1.toNat false,out3,there3)))
 else(
 some (false,out3,there3))) fun s=>
 some (s.1,s.2.1,s.2.2))
 else(
 some (free,out3,there3))) fun s2=>
 some (.inl (s2.1,wi64 (v2+1),s2.2.1,s2.2.2)))
 else(
 some (.inr (free,out3,there3)))
def qcU(n:yB0)(p:yB7)(next:Int)(v:Int)(out2:List Int)(there2:List Bool):Option ((Int×Int×List Int×List Bool)⊕(Int×List Int×List Bool)):=
 bif decide (v<(n.1.length:Int)) then(
 gd (inB v there2.length)<|
 (iter (fun x=>qcT n p v x.1 x.2.1 x.2.2.1 x.2.2.2) ((!(there2.getD v.toNat false)),0,out2,there2)).bind fun s3=>
 Option.bind (α:=Bool×List Int×List Bool) (
 bif s3.1 then(
 some (decide (next<0),s3.2.1,s3.2.2))
 else(
 some (false,s3.2.1,s3.2.2))) fun s4=>
 Option.bind (α:=Int×List Int×List Bool) (
 bif s4.1 then(
 some (v,s4.2.1,s4.2.2))
 else(
 some (next,s4.2.1,s4.2.2))) fun s5=>
 some (.inl (s5.1,wi64 (v+1),s5.2.1,s5.2.2)))
 else(
 some (.inr (next,out2,there2)))
def qcg(n:yB0)(p:yB7)(out:List Int)(there:List Bool):Option ((List Int×List Bool)⊕(List Int)):=
 (iter (fun x2=>qcU n p x2.1 x2.2.1 x2.2.2.1 x2.2.2.2) ((-1),0,out,there)).bind fun s6=>
 bif decide (s6.1<0) then(
 some (.inr s6.2.1))
 else(
 gd (fits (s6.2.1.length+1) 8)<|
 gd (inB s6.1 s6.2.2.length)<|
 some (.inl (s6.2.1++[s6.1],s6.2.2.set s6.1.toNat true)))
def qky(n:yB0)(p:yB7):Option (List Int):=
 gd (makeG 1 (n.1.length:Int))<|
 (iter (fun x3=>qcg n p x3.1 x3.2) ([],List.replicate (n.1.length:Int).toNat (false:Bool))).bind fun s7=>
 some s7
def qnJ:Fun:=
 ⟨119,2,1,
 ⟨r53_,[],[]⟩,
 ⟨[(0,ow 0)],[],[(0,.arr 3 I6)]⟩,
 fun x=>qky x.1 x.2⟩
theorem qs1:FO qnJ:=fi [] [qkw] 83 [] ((nn (nn (nn (mm (.mk [] (some (⟨[(2,pt 48 0),(3,pt 64 0),(5,ow 107),(6,ow 288)],v0_,a22_⟩,[⟨.r,⟨[(4,ow 91)],[],[(91,.arr 3 I6)]⟩⟩])) (mm (nn (mm (nn (mm (.mk [] (some (⟨[(2,pt 48 0),(3,pt 64 0),(5,ow 107),(6,ow 288),(7,ii),(20,kk),(21,ii)],v0_,a22_⟩,[⟨.x 2,⟨[(2,pt 48 0),(3,pt 64 0),(5,ow 107),(6,ow 288),(7,ii)],v0_,a22_⟩⟩])) (nn (nn (mm (mm (nn (nn (mm (nn (mm (.mk [] (some (⟨[(2,pt 48 0),(3,pt 64 0),(5,ow 107),(6,ow 288),(7,kk),(8,kk),(9,bb),(20,kk),(21,kk),(30,kk),(31,kk),(32,ii)],v0_,a22_⟩,[⟨.x 4,⟨[(2,pt 48 0),(3,pt 64 0),(5,ow 107),(6,ow 288),(7,kk),(8,kk),(9,bb),(20,kk),(21,kk)],v0_,a22_⟩⟩])) (nn (nn (mm (mm (nn (nn (.mk [.join [⟨.n,⟨r39_,v0_,a22_⟩⟩]] none (nn (.mk [.join [⟨.n,⟨r39_,v0_,a22_⟩⟩]] none .nil .nil)) .nil))) .nil) .nil))) .nil) .nil)) (mm (.mk [.join [⟨.n,⟨[(2,pt 48 0),(3,pt 64 0),(5,ow 107),(6,ow 288),(7,kk),(8,kk),(20,kk),(21,kk),(70,bb)],v0_,a22_⟩⟩]] none .nil .nil) (.mk [.join [⟨.n,⟨[(2,pt 48 0),(3,pt 64 0),(5,ow 107),(6,ow 288),(7,ii),(20,kk),(21,kk)],v0_,a22_⟩⟩]] none .nil .nil))))) .nil) .nil))) .nil) .nil)) .nil)) .nil) .nil) .nil))))) func119 ⟨⟨qpj,trivial⟩,trivial⟩
def qgD(n:yB0)(p:yB7)(v:Int):Option (Int⊕(Unit⊕Int)):=
 bif decide (v<(p.1.length:Int)) then(
 gd (inB v p.1.length)<|
 gd (inB v n.2.1.length)<|
 Option.bind (α:=Bool) (
 bif decide (p.1.getD v.toNat 0<wi64 (0-(min 1000 (((((n.2.1.getD v.toNat ([],0,0,0,0,0,[])).2).2).2).1)))) then(
 some true)
 else(
 some (decide (min 1000 (((((n.2.1.getD v.toNat ([],(0,(0,(0,(0,(0,[]))))))).2).2).2).1)<p.1.getD v.toNat 0)))) fun s2=>
 bif s2 then(
 some (.inr (.inr 1)))
 else(
 some (.inl (wi64 (v+1)))))
 else(
 some (.inr (.inl ())))
def qgE(p:yB7)(v2:Int):Option (Int⊕(Unit⊕Int)):=
 bif decide (v2<(p.2.1.length:Int)) then(
 gd (inB v2 p.2.1.length)<|
 Option.bind (α:=Bool) (
 bif decide (p.2.1.getD v2.toNat 0<(-1000)) then(
 some true)
 else(
 some (decide (1000<p.2.1.getD v2.toNat 0)))) fun s6=>
 bif s6 then(
 some (.inr (.inr 1)))
 else(
 some (.inl (wi64 (v2+1)))))
 else(
 some (.inr (.inl ())))
def qgF(n:yB0)(p:yB7)(v3:Int):Option (Int⊕(Unit⊕Int)):=
 bif decide (v3<(n.1.length:Int)) then(
 (qjP (n.1,n.2.1,n.2.2.1,n.2.2.2.1,n.2.2.2.2.1,n.2.2.2.2.2) (p.1,p.2.1,p.2.2) v3).bind fun r2=>
 bif !decide (r2.1=r2.2) then(
 some (.inr (.inr 12)))
 else(
 some (.inl (wi64 (v3+1)))))
 else(
 some (.inr (.inl ())))
def qfi(n:yB0)(p:yB7):Option (Int):=
 (qd2 (n.1,n.2.1,n.2.2.1,n.2.2.2.1,n.2.2.2.2.1,n.2.2.2.2.2)).bind fun r=>
 bif !decide (r=0) then(
 some r)
 else(
 Option.bind (α:=Bool) (
 bif !decide ((p.1.length:Int)=(n.2.1.length:Int)) then(
 some true)
 else(
 bif !decide ((p.2.1.length:Int)=(n.2.2.1.length:Int)) then(
 some true)
 else(
 some (!decide ((p.2.2.length:Int)=(n.2.2.2.1.length:Int)))))) fun s=>
 bif s then(
 some 9)
 else(
 (iter (fun x=>qgD n p x) 0).bind fun s3=>
 s3.elim (fun s4=>
 (iter (fun x2=>qgE p x2) 0).bind fun s7=>
 s7.elim (fun s8=>
 (iter (fun x3=>qgF n p x3) 0).bind fun s10=>
 s10.elim (fun s11=>
 (qky (n.1,n.2.1,n.2.2.1,n.2.2.2.1,n.2.2.2.2.1,n.2.2.2.2.2) (p.1,p.2.1,p.2.2)).bind fun r3=>
 bif !decide ((r3.length:Int)=(n.1.length:Int)) then(
 some 13)
 else(
 some 0))
 (fun s12=>
 some s12))
 (fun s9=>
 some s9))
 (fun s5=>
 some s5)))
def qeI:Fun:=
 ⟨50,2,1,
 ⟨r53_,[],[]⟩,
 ⟨[(0,ii)],[],[]⟩,
 fun x=>qfi x.1 x.2⟩
theorem qgG:FO qeI:=fi [] [qdD,qkx,qnJ] 108 [] ((nn (nn (mm (mm (.mk [.join [⟨.n,⟨[(2,pt 48 0),(3,pt 64 0),(43,bb)],v0_,[]⟩⟩]] none .nil .nil) .nil) (mm (nn (mm (.mk [] (some (⟨[(2,pt 48 0),(3,pt 64 0),(45,kk),(46,kk),(47,ii)],v0_,[]⟩,[⟨.x 0,⟨r29_,v0_,[]⟩⟩,⟨.r,⟨[(4,ii)],[],[]⟩⟩])) (nn (nn (mm (mm (nn (nn (mm (.mk [.join [⟨.n,⟨[(2,pt 48 0),(3,pt 64 0),(45,kk),(46,kk),(47,kk),(67,bb)],v0_,[]⟩⟩]] none .nil .nil) .nil))) .nil) .nil))) .nil) .nil)) (mm (nn (mm (.mk [] (some (⟨[(2,pt 48 0),(3,pt 64 0),(70,kk),(71,kk),(72,ii)],v0_,[]⟩,[⟨.x 2,⟨r29_,v0_,[]⟩⟩,⟨.r,⟨[(4,ii)],[],[]⟩⟩])) (nn (nn (mm (mm (nn (mm (.mk [.join [⟨.n,⟨[(2,pt 48 0),(3,pt 64 0),(70,kk),(71,kk),(72,kk),(81,bb)],v0_,[]⟩⟩]] none .nil .nil) .nil)) .nil) .nil))) .nil) .nil)) (mm (nn (mm (.mk [] (some (⟨[(2,pt 48 0),(3,pt 64 0),(85,kk),(86,ii)],v0_,[]⟩,[⟨.x 4,⟨r29_,v0_,[]⟩⟩,⟨.r,⟨[(4,ii)],[],[]⟩⟩])) .nil .nil) .nil)) .nil))))))) func50 ⟨⟨qeH,qpk,qs1,trivial⟩,trivial⟩
def qiv(n:yB0)(rates:List Int)(vat:Int)(i:Int)(v:Int)(v2:Bool):Option ((Int×Int×Bool)⊕((Int×Bool)⊕(Bool×Int×Bool))):=
 bif decide (i<(rates.length:Int)) then(
 Option.bind (α:=Bool) (
 gd (inB i rates.length)<|
 bif decide (0<rates.getD i.toNat 0) then(
 gd (inB i n.2.1.length)<|
 bif decide (((n.2.1.getD i.toNat ([],0,0,0,0,0,[])).2).1=vat) then(
 some true)
 else(
 gd (inB i rates.length)<|
 bif decide (rates.getD i.toNat 0<0) then(
 gd (inB i n.2.1.length)<|
 some (decide ((((n.2.1.getD i.toNat ([],(0,(0,(0,(0,(0,[]))))))).2).2).1=vat)))
 else(
 some false)))
 else(
 gd (inB i rates.length)<|
 bif decide (rates.getD i.toNat 0<0) then(
 gd (inB i n.2.1.length)<|
 some (decide ((((n.2.1.getD i.toNat ([],(0,(0,(0,(0,(0,[]))))))).2).2).1=vat)))
 else(
 some false))) fun s=>
 bif s then(
 gd (inB i rates.length)<|
 some (.inr (.inr (true,i,decide (rates.getD i.toNat 0<0)))))
 else(
 some (.inl (wi64 (i+1),v,v2))))
 else(
 some (.inr (.inl (v,v2))))
def qi4(n:yB0)(rates:List Int)(vat:Int):Option ((Int×Bool)×Bool):=
 (iter (fun x=>qiv n rates vat x.1 x.2.1 x.2.2) (0,0,false)).bind fun s2=>
 s2.elim (fun s3=>
 some ((0,false),false))
 (fun s4=>
 some ((s4.2.1,s4.2.2),s4.1))
def qmf:Fun:=
 ⟨261,3,2,
 ⟨[(0,dd tT0),(1,dd (.sl I6)),(2,ii)],[],[]⟩,
 ⟨[(0,dd (.pair I6 (.bool))),(1,bb)],[],[]⟩,
 fun x=>qi4 x.1 x.2.1 x.2.2⟩
theorem qsf:FO qmf:=fi [] [] 55 [] ((nn (mm (nn (mm (.mk [] (some (⟨[(1,kk),(2,kk),(3,pt 64 0),(6,pt 112 0),(8,ii)],[(64,32,kp 6),(112,76,[.data I6,.data (.bool)])],[]⟩,[⟨.x 0,⟨[(6,pt 112 0)],[(112,76,[.data I6,.data (.bool)])],[]⟩⟩,⟨.r,⟨[(6,pt 112 0),(7,bb)],[(112,76,[.data I6,.data (.bool)])],[]⟩⟩])) (nn (mm (mm (mm (.mk [.join [⟨.n,⟨[(1,kk),(2,kk),(3,pt 64 0),(6,pt 112 0),(8,kk),(46,bb)],[(64,32,kp 6),(112,76,[.keep,.keep])],[]⟩⟩]] none .nil .nil) .nil) .nil) .nil)) .nil) .nil)) .nil))) func261 ⟨trivial,trivial⟩
def qqC(n:Int):Option (Int):=
 some (max n (wi64 (0-n)))
def qmg:Fun:=
 ⟨262,1,1,
 ⟨[(0,ii)],[],[]⟩,
 ⟨[(0,ii)],[],[]⟩,
 fun x=>qqC x⟩
theorem qsg:FO qmg:=fi [] [] 7 [] .nil func262 ⟨trivial,trivial⟩
def qmV(n:yB0)(h:Int×Bool):Option (Int×Int):=
 gd (inB h.1 n.2.1.length)<|
 bif h.2 then(
 some ((((n.2.1.getD h.1.toNat ([],(0,(0,(0,(0,(0,[]))))))).2).2).1,((n.2.1.getD h.1.toNat ([],(0,(0,(0,(0,(0,[]))))))).2).1))
 else(
 some (((n.2.1.getD h.1.toNat ([],(0,(0,(0,(0,(0,[]))))))).2).1,(((n.2.1.getD h.1.toNat ([],(0,(0,(0,(0,(0,[]))))))).2).2).1))
def qkz:Fun:=
 ⟨263,2,2,
 ⟨[(0,dd tT0),(1,dd (.pair I6 (.bool)))],[],[]⟩,
 ⟨r60_,[],[]⟩,
 fun x=>qmV x.1 x.2⟩
theorem qpl:FO qkz:=fi [] [] 23 [] .nil func263 ⟨trivial,trivial⟩
def qiw(n:yB0)(ports:List Int)(vin:Int)(vat:Int)(i:Int)(v5:Int)(v6:Int)(v7:List (Int×Bool))(v8:Int)(x4:Int)(x5:Int)(x6:List (Int×Bool)):Option ((Int×Int×Int×(List (Int×Bool))×Int×Int×Int×List (Int×Bool))⊕((Int×Int×(List (Int×Bool))×Int×Int×Int×List (Int×Bool))⊕(Bool×Int×Int×Int×List (Int×Bool)))):=
 bif decide (i<(ports.length:Int)) then(
 Option.bind (α:=Bool×List (Int×Bool)) (
 gd (inB i n.2.2.1.length)<|
 bif decide (((n.2.2.1.getD i.toNat ([],0,0)).2).1=vat) then(
 gd (inB i ports.length)<|
 some (decide (ports.getD i.toNat 0<0),x6))
 else(
 some (false,x6))) fun s=>
 bif s.1 then(
 gd (inB i ports.length)<|
 some (.inr (.inr (true,vin,i,min x5 (wi64 (0-(ports.getD i.toNat 0))),s.2))))
 else(
 some (.inl (wi64 (i+1),v5,v6,v7,v8,x4,x5,s.2))))
 else(
 some (.inr (.inl (v5,v6,v7,v8,x4,x5,x6))))
def qix(n:yB0)(rates:List Int)(ports:List Int)(vin:Int)(vat:Int)(k:Int)(v:Int)(v2:Int)(v3:List (Int×Bool))(v4:Int)(x:Int)(x2:Int)(x3:List (Int×Bool)):Option ((Int×Int×Int×Int×(List (Int×Bool))×Int×Int×Int×List (Int×Bool))⊕((Int×Int×(List (Int×Bool))×Int×Int×Int×List (Int×Bool))⊕(Bool×Int×Int×Int×List (Int×Bool)))):=
 bif decide (k<=(n.1.length:Int)) then(
 (iter (fun x7=>qiw n ports vin vat x7.1 x7.2.1 x7.2.2.1 x7.2.2.2.1 x7.2.2.2.2.1 x7.2.2.2.2.2.1 x7.2.2.2.2.2.2.1 x7.2.2.2.2.2.2.2) (0,v,v2,v3,v4,x,x2,x3)).bind fun s2=>
 s2.elim (fun s3=>
 (qi4 (n.1,n.2.1,n.2.2.1,n.2.2.2.1,n.2.2.2.2.1,n.2.2.2.2.2) rates vat).bind fun r=>
 bif !r.2 then(
 some (.inr (.inr (false,vin,s3.2.2.2.2.1,s3.2.2.2.2.2.1,s3.2.2.2.2.2.2))))
 else(
 gd (fits (s3.2.2.2.2.2.2.length+1) 16)<|
 gd (inB r.1.1 rates.length)<|
 (qqC (rates.getD r.1.1.toNat 0)).bind fun r2=>
 (qmV (n.1,n.2.1,n.2.2.1,n.2.2.2.1,n.2.2.2.2.1,n.2.2.2.2.2) (r.1.1,r.1.2)).bind fun r3=>
 some (.inl (r3.2,wi64 (k+1),s3.1,s3.2.1,s3.2.2.1,s3.2.2.2.1,s3.2.2.2.2.1,min s3.2.2.2.2.2.1 r2,s3.2.2.2.2.2.2++[(r.1.1,r.1.2)]))))
 (fun s4=>
 some (.inr (.inr (s4.1,s4.2.1,s4.2.2.1,s4.2.2.2.1,s4.2.2.2.2)))))
 else(
 some (.inr (.inl (v,v2,v3,v4,x,x2,x3))))
def qi5(n:yB0)(rates:List Int)(ports:List Int)(vin:Int):Option (Int×Int×Int×Bool×List (Int×Bool)):=
 gd (inB vin ports.length)<|
 gd (inB vin n.2.2.1.length)<|
 (iter (fun x8=>qix n rates ports vin x8.1 x8.2.1 x8.2.2.1 x8.2.2.2.1 x8.2.2.2.2.1 x8.2.2.2.2.2.1 x8.2.2.2.2.2.2.1 x8.2.2.2.2.2.2.2.1 x8.2.2.2.2.2.2.2.2) (((n.2.2.1.getD vin.toNat ([],0,0)).2).1,0,0,0,[],0,0,ports.getD vin.toNat 0,[])).bind fun s5=>
 s5.elim (fun s6=>
 some (vin,s6.2.2.2.2.1,s6.2.2.2.2.2.1,false,s6.2.2.2.2.2.2))
 (fun s7=>
 some (s7.2.1,s7.2.2.1,s7.2.2.2.1,s7.1,s7.2.2.2.2))
def qmh:Fun:=
 ⟨222,4,2,
 ⟨[(0,dd tT0),(1,dd (.sl I6)),(2,dd (.sl I6)),(3,ii)],[],[]⟩,
 ⟨[(0,.agg [.data I6,.data I6,.own 0,.data I6]),(1,bb)],[],[(0,.arr 76 (.pair I6 (.bool)))]⟩,
 fun x=>qi5 x.1 x.2.1 x.2.2.1 x.2.2.2⟩
theorem qsh:FO qmh:=fi [] [qmf,qmg,qkz] 101 [] ((nn (nn (nn (mm (nn (mm (.mk [] (some (⟨[(1,kk),(2,kk),(4,pt 80 0),(8,pt 144 0),(10,pt 176 0),(11,ii),(12,ii)],v16_,a62_⟩,[⟨.x 0,⟨[(8,pt 144 0),(10,pt 176 0)],[(144,55,[.data I6,.data I6,.data (.sl (.pair I6 (.bool))),.data I6]),(176,55,[.keep,.data I6,.own 2873,.data I6])],a62_⟩⟩,⟨.r,⟨[(8,pt 144 0),(9,bb)],[(144,55,[.data I6,.data I6,.own 2361,.data I6])],[(2361,.arr 76 (.pair I6 (.bool)))]⟩⟩])) (nn (mm (mm (mm (nn (mm (.mk [] (some (⟨[(1,kk),(2,kk),(4,pt 80 0),(8,pt 144 0),(10,pt 176 0),(11,kk),(12,kk),(13,ii)],v16_,a62_⟩,[⟨.x 2,⟨[(1,kk),(2,kk),(4,pt 80 0),(8,pt 144 0),(10,pt 176 0),(11,kk),(12,kk)],v16_,a62_⟩⟩,⟨.r,⟨[(8,pt 144 0),(9,bb)],[(144,55,[.data I6,.data I6,.own 2873,.data I6])],a62_⟩⟩])) (nn (mm (mm (mm (.mk [.join [⟨.n,⟨[(1,kk),(2,kk),(4,pt 80 0),(8,pt 144 0),(10,pt 176 0),(11,kk),(12,kk),(13,kk),(55,bb)],[(80,32,kp 6),(144,55,kp 4),(176,55,[.keep,.keep,.own 2873,.keep])],a62_⟩⟩]] none .nil .nil) .nil) .nil) .nil)) .nil) .nil)) .nil) .nil) .nil)) .nil) .nil)) .nil))))) func222 ⟨⟨qsf,qsg,qpl,trivial⟩,trivial⟩
def qmi(r2:Int×Int×Int×Bool×List (Int×Bool))(k:Int)(rates3:List Int)(ports3:List Int)(out3:List yB8)(x:List (Int×Bool)):Option ((Int×List Int×List Int×(List yB8)×List (Int×Bool))⊕(List Int×List Int×(List yB8)×List (Int×Bool))):=
 bif decide (k<(x.length:Int)) then(
 gd (inB k x.length)<|
 Option.bind (α:=List Int×List Int×(List yB8)×List (Int×Bool)) (
 bif (x.getD k.toNat (0,false)).2 then(
 gd (inB ((x.getD k.toNat (0,false)).1) rates3.length)<|
 gd (inB ((x.getD k.toNat (0,false)).1) rates3.length)<|
 some (rates3.set (((x.getD k.toNat (0,false)).1).toNat) (wi64 ((rates3.getD (((x.getD k.toNat (0,false)).1).toNat) 0)+r2.2.2.1)),ports3,out3,x))
 else(
 gd (inB ((x.getD k.toNat (0,false)).1) rates3.length)<|
 gd (inB ((x.getD k.toNat (0,false)).1) rates3.length)<|
 some (rates3.set (((x.getD k.toNat (0,false)).1).toNat) (wi64 ((rates3.getD (((x.getD k.toNat (0,false)).1).toNat) 0)-r2.2.2.1)),ports3,out3,x))) fun s2=>
 some (.inl (wi64 (k+1),s2.1,s2.2.1,s2.2.2.1,s2.2.2.2)))
 else(
 some (.inr (rates3,ports3,out3,x)))
def qiy(n:yB0)(i:Int)(rates2:List Int)(ports2:List Int)(out2:List yB8):Option ((List Int×List Int×List yB8)⊕((List Int×List Int×List yB8)⊕((List yB8)×Int))):=
 gd (inB i ports2.length)<|
 bif decide (0<ports2.getD i.toNat 0) then(
 (qi5 (n.1,n.2.1,n.2.2.1,n.2.2.2.1,n.2.2.2.2.1,n.2.2.2.2.2) rates2 ports2 i).bind fun r2=>
 Option.bind (α:=Bool×List Int×List Int×(List yB8)×List (Int×Bool)) (
 bif !r2.2.2.2.1 then(
 some (true,rates2,ports2,out2,r2.2.2.2.2))
 else(
 bif decide ((out2.length:Int)=64) then(
 some (true,rates2,ports2,out2,r2.2.2.2.2))
 else(
 some (decide (32<(r2.2.2.2.2.length:Int)),rates2,ports2,out2,r2.2.2.2.2)))) fun s=>
 bif s.1 then(
 some (.inr (.inr ([],23))))
 else(
 gd (inB r2.1 s.2.2.1.length)<|
 gd (inB r2.1 s.2.2.1.length)<|
 gd (inB r2.2.1 (s.2.2.1.set r2.1.toNat (wi64 ((s.2.2.1.getD r2.1.toNat 0)-r2.2.2.1))).length)<|
 gd (inB r2.2.1 (s.2.2.1.set r2.1.toNat (wi64 ((s.2.2.1.getD r2.1.toNat 0)-r2.2.2.1))).length)<|
 (iter (fun x2=>qmi r2 x2.1 x2.2.1 x2.2.2.1 x2.2.2.2.1 x2.2.2.2.2) (0,s.2.1,(s.2.2.1.set r2.1.toNat (wi64 ((s.2.2.1.getD r2.1.toNat 0)-r2.2.2.1))).set r2.2.1.toNat (wi64 (((s.2.2.1.set r2.1.toNat (wi64 ((s.2.2.1.getD r2.1.toNat 0)-r2.2.2.1))).getD r2.2.1.toNat 0)+r2.2.2.1)),s.2.2.2.1,s.2.2.2.2)).bind fun s3=>
 gd (fits (s3.2.2.1.length+1) 48)<|
 some (.inl (s3.1,s3.2.1,s3.2.2.1++[(r2.1,(r2.2.1,(s3.2.2.2,r2.2.2.1)))]))))
 else(
 some (.inr (.inl (rates2,ports2,out2))))
def qiz(n:yB0)(i:Int)(rates:List Int)(ports:List Int)(out:List yB8):Option ((Int×List Int×List Int×List yB8)⊕((List yB8)⊕((List yB8)×Int))):=
 bif decide (i<(ports.length:Int)) then(
 (iter (fun x3=>qiy n i x3.1 x3.2.1 x3.2.2) (rates,ports,out)).bind fun s4=>
 s4.elim (fun s5=>
 some (.inl (wi64 (i+1),s5.1,s5.2.1,s5.2.2)))
 (fun s6=>
 some (.inr (.inr (s6.1,s6.2)))))
 else(
 some (.inr (.inl out)))
def qi6(n:yB0)(p:yB7):Option ((List yB8)×Int):=
 (qfi (n.1,n.2.1,n.2.2.1,n.2.2.2.1,n.2.2.2.2.1,n.2.2.2.2.2) (p.1,p.2.1,p.2.2)).bind fun r=>
 bif !decide (r=0) then(
 some ([],r))
 else(
 gd (fits (0+p.1.length) 8)<|
 gd (fits (0+p.2.1.length) 8)<|
 (iter (fun x4=>qiz n x4.1 x4.2.1 x4.2.2.1 x4.2.2.2) (0,([]++p.1),([]++p.2.1),[])).bind fun s7=>
 s7.elim (fun s8=>
 some (s8,0))
 (fun s9=>
 some (s9.1,s9.2)))
def qmj:Fun:=
 ⟨144,2,2,
 ⟨r53_,[],[]⟩,
 ⟨[(0,dd (.sl (.pair I6 (.pair I6 (.pair (.sl (.pair I6 (.bool))) I6))))),(1,ii)],[],[]⟩,
 fun x=>qi6 x.1 x.2⟩
theorem qsi:FO qmj:=fi [21,25] [qeI,qmh] 128 [] ((nn (nn (nn (nn (nn (mm (nn (mm (.mk [] (some (⟨[(2,pt 48 0),(7,ow 400),(8,ow 464),(9,ow 171),(10,ii)],v116_,a30_⟩,[⟨.x 0,⟨[(9,ow 171)],[],[(171,.arr 55 (.pair I6 (.pair I6 (.pair (.sl (.pair I6 (.bool))) I6))))]⟩⟩,⟨.r,⟨r91_,[],[]⟩⟩])) (nn (mm (mm (mm (.mk [] (some (⟨r121_,v116_,a30_⟩,[⟨.x 2,⟨r121_,v116_,a30_⟩⟩,⟨.r,⟨r91_,[],[]⟩⟩])) (nn (mm (nn (mm (mm (.mk [.join [⟨.n,⟨[(2,pt 48 0),(7,ow 400),(8,ow 464),(9,ow 171),(10,kk),(11,pt 192 0),(60,bb)],v43_,a13_⟩⟩]] none .nil .nil) .nil) (nn (nn (mm (nn (mm (.mk [] (some (⟨[(2,pt 48 0),(7,ow 400),(8,ow 464),(9,ow 171),(10,kk),(11,pt 192 0),(13,ii)],v43_,a13_⟩,[⟨.x 4,⟨[(2,pt 48 0),(7,ow 400),(8,ow 464),(9,ow 171),(10,kk),(11,pt 192 0)],v43_,a13_⟩⟩])) (nn (mm (mm (nn (nn (.mk [.join [⟨.n,⟨[(2,pt 48 0),(7,ow 400),(8,ow 464),(9,ow 171),(10,kk),(11,pt 192 0),(13,kk)],v43_,a13_⟩⟩]] none .nil .nil))) .nil) .nil)) .nil) .nil)) (.mk [.fz [11]] none .nil .nil)))))) .nil)) .nil) .nil) .nil) .nil)) .nil) .nil)) .nil))))))) func144 ⟨⟨qgG,qsh,trivial⟩,trivial⟩
def qjQ(p:yB8):Option (Int×Int×Int×List (Int×Bool)):=
 gd (fits (0+p.2.2.1.length) 16)<|
 some (p.1,p.2.1,p.2.2.2,[]++p.2.2.1)
def qkA:Fun:=
 ⟨145,1,1,
 ⟨r113_,[],[]⟩,
 ⟨[(0,.agg [.data I6,.data I6,.own 0,.data I6])],[],[(0,.arr 76 (.pair I6 (.bool)))]⟩,
 fun x=>qjQ x⟩
theorem qpm:FO qkA:=fi [3] [] 9 [] .nil func145 ⟨trivial,trivial⟩
def qkB(n:yB0)(d:yB5)(s:List Int)(s2:Int):Option (yB6×List Int×Int):=
 (qab 9 s s2).bind fun r=>
 bif decide (r.1=0) then(
 (qab (wi64 ((d.1.length:Int)+1)) r.2.1 r.2.2).bind fun r2=>
 some ((1,(r2.1,(0,(0,(0,([],0)))))),r2.2.1,r2.2.2))
 else(
 bif decide (r.1=1) then(
 (qab (wi64 ((d.1.length:Int)+2)) r.2.1 r.2.2).bind fun r3=>
 some ((2,(wi64 (r3.1-1),(0,(0,(0,([],0)))))),r3.2.1,r3.2.2))
 else(
 bif decide (r.1=2) then(
 (qab (wi64 ((n.2.2.2.1.length:Int)+1)) r.2.1 r.2.2).bind fun r4=>
 some ((3,(r4.1,(0,(0,(0,([],0)))))),r4.2.1,r4.2.2))
 else(
 bif decide (r.1=3) then(
 (qab (wi64 ((n.2.2.2.1.length:Int)+1)) r.2.1 r.2.2).bind fun r5=>
 some ((4,(r5.1,(0,(0,(0,([],0)))))),r5.2.1,r5.2.2))
 else(
 Option.bind (α:=Bool) (
 bif decide (r.1=4) then(
 some (decide (r.1=4)))
 else(
 some (decide (r.1=5)))) fun s3=>
 bif s3 then(
 (qap ([1,2,7,60,100,0,101]:List Int) r.2.1 r.2.2).bind fun r6=>
 some ((6,(0,(r6.1,(0,(0,([],0)))))),r6.2.1,r6.2.2))
 else(
 bif decide (r.1=6) then(
 (qab 9 r.2.1 r.2.2).bind fun r7=>
 (qab 4 r7.2.1 r7.2.2).bind fun r8=>
 (qab 5 r8.2.1 r8.2.2).bind fun r9=>
 (qab 2 r9.2.1 r9.2.2).bind fun r10=>
 (qab 2 r10.2.1 r10.2.2).bind fun r11=>
 some ((r7.1,(r8.1,(r9.1,(r10.1,(0,([],r11.1)))))),r11.2.1,r11.2.2))
 else(
 (qab 2 r.2.1 r.2.2).bind fun r12=>
 Option.bind (α:=List Int×Int×List Int×List Int×List Bool) (
 bif decide (r12.1=0) then(
 (qhW (n.1,n.2.1,n.2.2.1,n.2.2.2.1,n.2.2.2.2.1,n.2.2.2.2.2) r12.2.1 r12.2.2).bind fun r13=>
 some (r13.2.1,r13.2.2,r13.1.1,r13.1.2.1,r13.1.2.2))
 else(
 some (r12.2.1,r12.2.2,d.2.1,d.2.2.1,d.2.2.2))) fun s4=>
 (qi6 (n.1,n.2.1,n.2.2.1,n.2.2.2.1,n.2.2.2.2.1,n.2.2.2.2.2) (s4.2.2.1,s4.2.2.2.1,s4.2.2.2.2)).bind fun r14=>
 bif decide ((r14.1.length:Int)=0) then(
 some ((5,(0,(1,(0,(1,([],0)))))),s4.1,s4.2.1))
 else(
 (qab (r14.1.length:Int) s4.1 s4.2.1).bind fun r15=>
 gd (inB r15.1 r14.1.length)<|
 (qjQ (r14.1.getD r15.1.toNat (0,0,[],0))).bind fun r16=>
 (qap [r16.2.2.1,wi64 (0-r16.2.2.1),1,(-1),wi64 (r16.2.2.1+1),wi64 ((wi64 (0-r16.2.2.1))-1),0] r15.2.1 r15.2.2).bind fun r17=>
 some ((5,(0,(r17.1,(r16.1,(r16.2.1,(r16.2.2.2,0)))))),r17.2.1,r17.2.2))))))))
def qnK:Fun:=
 ⟨73,3,1,
 ⟨[(0,pt 0 0),(1,dd tT0),(2,dd (.pair (.sl tT1) tT6))],v3_,[]⟩,
 ⟨[(0,dd tT2)],v3_,[]⟩,
 fun x=>qkB x.1 x.2.1 x.2.2.1 x.2.2.2⟩
theorem qs2:FO qnK:=fi [] [qa8,qb3,qld,qmj,qkA] 118 [] ((nn (mm (nn (mm (nn (nn (nn (nn (nn (nn (nn (nn (mm (nn (.mk [.join [⟨.n,⟨[(0,pt 0 0),(4,pt 80 0),(5,pt 96 0),(6,pt 112 0),(13,kk),(51,bb)],[(0,87,[.keep,.keep]),(80,32,kp 6),(96,44,kp 4),(112,57,kp 7)],[]⟩⟩]] none .nil .nil)) .nil))))))))) .nil)) (nn (mm (nn (.mk [.join [⟨.n,⟨[(0,pt 0 0),(4,pt 80 0),(6,pt 112 0),(7,pt 128 0)],[(0,87,[.data (.sl I6),.data I6]),(80,32,kp 6),(112,57,kp 7),(128,42,[.data (.sl I6),.data (.sl I6),.data (.sl (.bool))])],[]⟩⟩]] none .nil .nil)) .nil))))) func73 ⟨⟨qbk,qcA,qqT,qsi,qpm,trivial⟩,trivial⟩
def qfX(n:yB0)(c:yB11)(s:List Int)(s2:Int):Option (yB1×List Int×Int):=
 (qab 4 s s2).bind fun r=>
 bif decide (r.1=0) then(
 (qab 4 r.2.1 r.2.2).bind fun r2=>
 (qeg r2.1 r2.2.1 r2.2.2).bind fun r3=>
 gd (fits (5+r3.1.2.2.2.2.2.length) 8)<|
 some ((1,([r3.1.1,r3.1.2.1,r3.1.2.2.1,r3.1.2.2.2.1,r3.1.2.2.2.2.1]++r3.1.2.2.2.2.2,((0,(0,(0,(0,(0,([],0)))))),([],(0,0))))),r3.2.1,r3.2.2))
 else(
 bif decide (r.1=1) then(
 (qgC 2 r.2.1 r.2.2).bind fun r4=>
 bif decide ((r4.2.2.length:Int)=0) then(
 (qab 5 r4.1 r4.2.1).bind fun r5=>
 some ((r5.1,([],((0,(0,(0,(0,(0,([],0)))))),([],(0,0))))),r5.2.1,r5.2.2))
 else(
 gd (inB 0 r4.2.2.length)<|
 some ((3,([],((0,(0,(0,(0,(0,([],0)))))),((r4.2.2.getD 0 ([],(0,0))).1,(((r4.2.2.getD 0 ([],(0,0))).2).1,((r4.2.2.getD 0 ([],(0,0))).2).2))))),r4.1,r4.2.1)))
 else(
 (qkB (n.1,n.2.1,n.2.2.1,n.2.2.2.1,n.2.2.2.2.1,n.2.2.2.2.2) (c.1.1,c.1.2.1,c.1.2.2.1,c.1.2.2.2) r.2.1 r.2.2).bind fun r6=>
 some ((2,([],((r6.1.1,(r6.1.2.1,(r6.1.2.2.1,(r6.1.2.2.2.1,(r6.1.2.2.2.2.1,(r6.1.2.2.2.2.2.1,r6.1.2.2.2.2.2.2)))))),([],(0,0))))),r6.2.1,r6.2.2)))
def qhs:Fun:=
 ⟨24,3,1,
 ⟨[(0,pt 0 0),(1,dd tT0),(2,dd (.pair (.pair (.sl tT1) tT6) (.pair (.sl tT3) (.pair (.sl tT4) I6))))],v3_,[]⟩,
 ⟨r17_,v3_,[]⟩,
 fun x=>qfX x.1 x.2.1 x.2.2.1 x.2.2.2⟩
theorem qle:FO qhs:=fi [27] [qa8,qhB,qjO,qnK] 52 [] .nil func24 ⟨⟨qbk,qnk,qp8,qs2,trivial⟩,trivial⟩
def qgH(p:yB7):Option yB7:=
 gd (fits (0+p.1.length) 8)<|
 gd (fits (0+p.2.1.length) 8)<|
 gd (fits (0+p.2.2.length) 1)<|
 some (([]++p.1),([]++p.2.1),[]++p.2.2)
def qjR:Fun:=
 ⟨182,1,1,
 ⟨[(0,dd tT6)],[],[]⟩,
 ⟨[(0,.agg [.own 0,.own 1,.own 2])],[],[(0,.arr 3 I6),(1,.arr 3 I6),(2,.arr 4 (.bool))]⟩,
 fun x=>qgH x⟩
theorem qp9:FO qjR:=fi [3,7,11] [] 16 [] .nil func182 ⟨trivial,trivial⟩
def qeh(d:yB5):Option (yB4×List Int×List Int×List Bool):=
 gd (fits (0+d.1.length) 24)<|
 (qgH (d.2.1,d.2.2.1,d.2.2.2)).bind fun r=>
 some (([]++d.1),r.1,r.2.1,r.2.2)
def qei:Fun:=
 ⟨92,1,1,
 ⟨[(0,dd (.pair (.sl tT1) tT6))],[],[]⟩,
 ⟨[(0,.agg [.own 0,.own 1,.own 2,.own 3])],[],a59_⟩,
 fun x=>qeh x⟩
theorem qfY:FO qei:=fi [3] [qjR] 11 [] .nil func92 ⟨⟨qp9,trivial⟩,trivial⟩
def qdJ(t:yB3):Option yB3:=
 gd (fits (0+t.2.2.2.2.2.length) 8)<|
 some (t.1,t.2.1,t.2.2.1,t.2.2.2.1,t.2.2.2.2.1,[]++t.2.2.2.2.2)
def qg9:Fun:=
 ⟨93,1,1,
 ⟨[(0,dd tT3)],[],[]⟩,
 ⟨[(0,dd tT3)],[],[]⟩,
 fun x=>qdJ x⟩
theorem qmk:FO qg9:=fi [3] [] 9 [] .nil func93 ⟨trivial,trivial⟩
def qhX(c:yB11)(i:Int)(x:yB4)(x2:List Int)(x3:List Int)(x4:List Bool)(x5:List yB3)(x6:List yB2):Option ((Int×yB4×List Int×List Int×List Bool×(List yB3)×List yB2)⊕(yB4×List Int×List Int×List Bool×(List yB3)×List yB2)):=
 bif decide (i<(c.2.1.length:Int)) then(
 gd (inB i c.2.1.length)<|
 (qdJ (c.2.1.getD i.toNat (0,0,0,0,0,[]))).bind fun r2=>
 gd (fits (x5.length+1) 64)<|
 some (.inl (wi64 (i+1),x,x2,x3,x4,x5++[(r2.1,(r2.2.1,(r2.2.2.1,(r2.2.2.2.1,(r2.2.2.2.2.1,r2.2.2.2.2.2)))))],x6)))
 else(
 some (.inr (x,x2,x3,x4,x5,x6)))
def qmW(c:yB11):Option (Int×yB4×List Int×List Int×List Bool×(List yB3)×List yB2):=
 (qeh (c.1.1,c.1.2.1,c.1.2.2.1,c.1.2.2.2)).bind fun r=>
 gd (fits (0+c.2.2.1.length) 48)<|
 (iter (fun x7=>qhX c x7.1 x7.2.1 x7.2.2.1 x7.2.2.2.1 x7.2.2.2.2.1 x7.2.2.2.2.2.1 x7.2.2.2.2.2.2) (0,r.1,r.2.1,r.2.2.1,r.2.2.2,[],[]++c.2.2.1)).bind fun s=>
 some (c.2.2.2,s.1,s.2.1,s.2.2.1,s.2.2.2.1,s.2.2.2.2.1,s.2.2.2.2.2)
def qpn:Fun:=
 ⟨37,1,1,
 ⟨r98_,[],[]⟩,
 ⟨r110_,[],a57_⟩,
 fun x=>qmW x⟩
theorem qut:FO qpn:=fi [8] [qei,qg9] 34 [] ((nn (nn (mm (nn (mm (.mk [] (some (⟨[(1,pt 32 0),(2,pt 48 0),(3,pt 64 0),(4,ii)],[(32,48,kp 7),(48,48,kp 7),(64,48,[.own 128,.own 129,.own 130,.own 131,.own 1113,.own 192,.keep])],a45_⟩,[⟨.x 0,⟨r29_,[(48,48,kp 7),(64,48,[.own 128,.own 129,.own 130,.own 131,.own 1113,.own 192,.keep])],a45_⟩⟩])) .nil .nil) .nil)) .nil)))) func37 ⟨⟨qfY,qmk,trivial⟩,trivial⟩
def qjm(a:yB8)(b:yB8)(i:Int):Option (Int⊕(Unit⊕Bool)):=
 bif decide (i<(a.2.2.1.length:Int)) then(
 gd (inB i a.2.2.1.length)<|
 gd (inB i b.2.2.1.length)<|
 bif !(decide ((a.2.2.1.getD i.toNat (0,false)).1=(b.2.2.1.getD i.toNat (0,false)).1)&&((a.2.2.1.getD i.toNat (0,false)).2==(b.2.2.1.getD i.toNat (0,false)).2)) then(
 some (.inr (.inr false)))
 else(
 some (.inl (wi64 (i+1)))))
 else(
 some (.inr (.inl ())))
def qiA(a:yB8)(b:yB8):Option (Bool):=
 Option.bind (α:=Bool) (
 bif !decide (a.1=b.1) then(
 some true)
 else(
 bif !decide (a.2.1=b.2.1) then(
 some true)
 else(
 some (!decide ((a.2.2.1.length:Int)=(b.2.2.1.length:Int)))))) fun s=>
 bif s then(
 some false)
 else(
 (iter (fun x=>qjm a b x) 0).bind fun s2=>
 s2.elim (fun s3=>
 some true)
 (fun s4=>
 some s4))
def qnL:Fun:=
 ⟨138,2,1,
 ⟨[(0,dd (.pair I6 (.pair I6 (.pair (.sl (.pair I6 (.bool))) I6)))),(1,dd (.pair I6 (.pair I6 (.pair (.sl (.pair I6 (.bool))) I6))))],[],[]⟩,
 ⟨[(0,bb)],[],[]⟩,
 fun x=>qiA x.1 x.2⟩
theorem qs3:FO qnL:=fi [] [] 45 [] ((nn (mm (mm (.mk [.join [⟨.n,⟨[(2,pt 48 0),(3,pt 64 0),(26,bb)],[(48,55,kp 4),(64,55,kp 4)],[]⟩⟩]] none .nil .nil) .nil) (mm (nn (mm (.mk [] (some (⟨r102_,[(48,55,kp 4),(64,55,kp 4)],[]⟩,[⟨.x 0,⟨[],[],[]⟩⟩,⟨.r,⟨[(4,bb)],[],[]⟩⟩])) .nil .nil) .nil)) .nil)))) func138 ⟨trivial,trivial⟩
def qch(a:yB6)(b:yB6):Option (Bool):=
 bif decide (a.1=b.1) then(
 bif decide (a.2.1=b.2.1) then(
 bif decide (a.2.2.1=b.2.2.1) then(
 bif decide (a.2.2.2.2.2.2=b.2.2.2.2.2.2) then(
 (qiA (a.2.2.2.1,a.2.2.2.2.1,a.2.2.2.2.2.1,a.2.2.2.2.2.2) (b.2.2.2.1,b.2.2.2.2.1,b.2.2.2.2.2.1,b.2.2.2.2.2.2)).bind fun r=>
 some r)
 else(
 some false))
 else(
 some false))
 else(
 some false))
 else(
 some false)
def qc7:Fun:=
 ⟨64,2,1,
 ⟨[(0,dd tT2),(1,dd tT2)],[],[]⟩,
 ⟨[(0,bb)],[],[]⟩,
 fun x=>qch x.1 x.2⟩
theorem qej:FO qc7:=fi [] [qnL] 40 [] .nil func64 ⟨⟨qs3,trivial⟩,trivial⟩
def qfq(s:yB6):Option (Bool):=
 (qch (s.1,s.2.1,s.2.2.1,s.2.2.2.1,s.2.2.2.2.1,s.2.2.2.2.2.1,s.2.2.2.2.2.2) (0,0,0,0,0,[],0)).bind fun r=>
 some r
def qml:Fun:=
 ⟨38,1,1,
 ⟨[(0,dd tT2)],[],[]⟩,
 ⟨[(0,bb)],[],[]⟩,
 fun x=>qfq x⟩
theorem qsj:FO qml:=fi [] [qc7] 6 [] .nil func38 ⟨⟨qej,trivial⟩,trivial⟩
def qkC(n:Int)(most:Int):Option (Bool):=
 bif decide (0<=n) then(
 some (decide (n<=most)))
 else(
 some false)
def qsk:Fun:=
 ⟨94,2,1,
 ⟨r60_,[],[]⟩,
 ⟨[(0,bb)],[],[]⟩,
 fun x=>qkC x.1 x.2⟩
theorem qwY:FO qsk:=fi [] [] 12 [] .nil func94 ⟨trivial,trivial⟩
def qeJ(t:yB3)(v:Int):Option (Int⊕(Unit⊕Bool)):=
 bif decide (v<(t.2.2.2.2.2.length:Int)) then(
 Option.bind (α:=Bool) (
 gd (inB v t.2.2.2.2.2.length)<|
 bif decide (t.2.2.2.2.2.getD v.toNat 0<(-9007199254740992)) then(
 some true)
 else(
 gd (inB v t.2.2.2.2.2.length)<|
 some (decide (9007199254740992<t.2.2.2.2.2.getD v.toNat 0)))) fun s=>
 bif s then(
 some (.inr (.inr false)))
 else(
 some (.inl (wi64 (v+1)))))
 else(
 some (.inr (.inl ())))
def qiB(t:yB3):Option (Bool):=
 (iter (fun x=>qeJ t x) 0).bind fun s2=>
 s2.elim (fun s3=>
 (qkC t.1 255).bind fun r=>
 bif r then(
 (qkC t.2.1 255).bind fun r2=>
 bif r2 then(
 (qkC t.2.2.1 2147483648).bind fun r3=>
 bif r3 then(
 (qkC t.2.2.2.1 1099511627776).bind fun r4=>
 bif r4 then(
 (qkC t.2.2.2.2.1 63).bind fun r5=>
 bif r5 then(
 some (decide ((t.2.2.2.2.2.length:Int)<=16)))
 else(
 some false))
 else(
 some false))
 else(
 some false))
 else(
 some false))
 else(
 some false))
 (fun s4=>
 some s4)
def qnM:Fun:=
 ⟨39,1,1,
 ⟨[(0,dd tT3)],[],[]⟩,
 ⟨[(0,bb)],[],[]⟩,
 fun x=>qiB x⟩
theorem qs4:FO qnM:=fi [] [qsk] 54 [] ((nn (mm (nn (mm (.mk [] (some (⟨[(1,pt 32 0),(6,kk),(7,ii)],[(32,108,kp 6)],[]⟩,[⟨.x 0,⟨[(1,pt 32 0)],[(32,108,kp 6)],[]⟩⟩,⟨.r,⟨[(2,bb)],[],[]⟩⟩])) (nn (nn (mm (mm (nn (mm (.mk [.join [⟨.n,⟨[(1,pt 32 0),(6,kk),(7,kk),(23,bb)],[(32,108,kp 6)],[]⟩⟩]] none .nil .nil) .nil)) .nil) .nil))) .nil) .nil)) .nil))) func39 ⟨⟨qwY,trivial⟩,trivial⟩
def qi7(a:yB3)(b:yB3):Option (Bool):=
 bif decide (a.1=b.1) then(
 bif decide (a.2.1<b.2.1) then(
 some true)
 else(
 bif decide (a.2.1=b.2.1) then(
 some (decide (a.2.2.1<b.2.2.1)))
 else(
 some false)))
 else(
 some false)
def qmm:Fun:=
 ⟨95,2,1,
 ⟨[(0,dd tT3),(1,dd tT3)],[],[]⟩,
 ⟨[(0,bb)],[],[]⟩,
 fun x=>qi7 x.1 x.2⟩
theorem qsl:FO qmm:=fi [] [] 31 [] .nil func95 ⟨trivial,trivial⟩
def qiC(t:yB3)(k:Int)(l2:List yB3):Option ((Int×List yB3)⊕(Int×List yB3)):=
 Option.bind (α:=Bool×List yB3) (
 bif decide (k<(l2.length:Int)) then(
 gd (inB k l2.length)<|
 some (decide ((l2.getD k.toNat (0,(0,(0,(0,(0,[])))))).1<t.1),l2))
 else(
 some (false,l2))) fun s=>
 bif s.1 then(
 some (.inl (wi64 (k+1),s.2)))
 else(
 some (.inr (k,s.2)))
def qha(t:yB3)(l:List yB3):Option (Bool×List yB3):=
 (iter (fun x=>qiC t x.1 x.2) (0,l)).bind fun s2=>
 Option.bind (α:=Bool×List yB3) (
 bif decide (s2.1<(s2.2.length:Int)) then(
 gd (inB s2.1 s2.2.length)<|
 some (decide ((s2.2.getD s2.1.toNat (0,(0,(0,(0,(0,[])))))).1=t.1),s2.2))
 else(
 some (false,s2.2))) fun s3=>
 bif s3.1 then(
 gd (inB s2.1 s3.2.length)<|
 (qi7 (s3.2.getD s2.1.toNat (0,0,0,0,0,[])) (t.1,t.2.1,t.2.2.1,t.2.2.2.1,t.2.2.2.2.1,t.2.2.2.2.2)).bind fun r=>
 bif !r then(
 some (false,[]))
 else(
 gd (inB s2.1 s3.2.length)<|
 some (true,s3.2.set s2.1.toNat (t.1,(t.2.1,(t.2.2.1,(t.2.2.2.1,(t.2.2.2.2.1,t.2.2.2.2.2))))))))
 else(
 gd (cutG none (some (.i64,s2.1)) s3.2.length)<|
 gd (fits (0+(s3.2.take s2.1.toNat).length) 64)<|
 gd (fits (([]++(s3.2.take s2.1.toNat)).length+1) 64)<|
 gd (cutG (some (.i64,s2.1)) none s3.2.length)<|
 gd (fits ((([]++(s3.2.take s2.1.toNat))++[(t.1,t.2.1,t.2.2.1,t.2.2.2.1,t.2.2.2.2.1,t.2.2.2.2.2)]).length+(s3.2.drop s2.1.toNat).length) 64)<|
 some (true,(([]++(s3.2.take s2.1.toNat))++[(t.1,(t.2.1,(t.2.2.1,(t.2.2.2.1,(t.2.2.2.2.1,t.2.2.2.2.2)))))])++(s3.2.drop s2.1.toNat)))
def qmn:Fun:=
 ⟨40,2,2,
 ⟨[(0,ow 0),(1,dd tT3)],[],a129_⟩,
 ⟨[(0,ow 1),(1,bb)],[],[(1,.arr 108 tT3)]⟩,
 fun x=>qha x.1 x.2⟩
theorem qsm:FO qmn:=fi [50] [qmm] 63 [] ((nn (nn (mm (mm (.mk [] (some (⟨[(0,ow 0),(3,pt 64 0),(6,ii)],[(64,108,kp 6)],a129_⟩,[⟨.x 0,⟨[(0,ow 0),(3,pt 64 0),(6,ii)],[(64,108,kp 6)],a129_⟩⟩])) (mm (mm (.mk [.join [⟨.n,⟨[(0,ow 0),(3,pt 64 0),(6,kk),(21,bb)],[(64,108,kp 6)],a129_⟩⟩]] none .nil .nil) .nil) .nil) .nil) .nil) (mm (mm (.mk [.join [⟨.n,⟨[(0,ow 0),(3,pt 64 0),(6,kk),(37,bb)],[(64,108,kp 6)],a129_⟩⟩]] none .nil .nil) .nil) (mm (.mk [.fz [0]] none .nil .nil) .nil)))))) func40 ⟨⟨qsl,trivial⟩,trivial⟩
def qfj(v:Int×Int×Bool×Bool):Option (Bool):=
 bif decide (1<=v.1) then(
 bif decide (v.1<=60) then(
 bif decide (0<=v.2.1) then(
 some (decide (v.2.1<=v.1)))
 else(
 some false))
 else(
 some false))
 else(
 some false)
def qdE:Fun:=
 ⟨117,1,1,
 ⟨[(0,dd tT1)],[],[]⟩,
 ⟨[(0,bb)],[],[]⟩,
 fun x=>qfj x⟩
theorem qeK:FO qdE:=fi [] [] 23 [] .nil func117 ⟨trivial,trivial⟩
def qiD(l:yB4)(i:Int):Option (Int⊕(Unit⊕Int)):=
 bif decide (i<(l.length:Int)) then(
 gd (inB i l.length)<|
 (qfj (l.getD i.toNat (0,0,false,false))).bind fun r2=>
 bif !r2 then(
 some (.inr (.inr 20)))
 else(
 some (.inl (wi64 (i+1)))))
 else(
 some (.inr (.inl ())))
def qi8(n:yB0)(l:yB4):Option (Int):=
 (qdj (n.1,n.2.1,n.2.2.1,n.2.2.2.1,n.2.2.2.2.1,n.2.2.2.2.2)).bind fun r=>
 bif !decide ((l.length:Int)=r) then(
 some 20)
 else(
 (iter (fun x=>qiD l x) 0).bind fun s=>
 s.elim (fun s2=>
 some 0)
 (fun s3=>
 some s3))
def qmo:Fun:=
 ⟨49,2,1,
 ⟨[(0,dd tT0),(1,dd (.sl tT1))],[],[]⟩,
 ⟨[(0,ii)],[],[]⟩,
 fun x=>qi8 x.1 x.2⟩
theorem qsn:FO qmo:=fi [] [qe6,qdE] 23 [] ((nn (nn (mm (nn (mm (.mk [] (some (⟨[(1,kk),(5,ii)],[],[]⟩,[⟨.x 0,⟨[],[],[]⟩⟩,⟨.r,⟨[(4,ii)],[],[]⟩⟩])) .nil .nil) .nil)) .nil)))) func49 ⟨⟨qhq,qeK,trivial⟩,trivial⟩
def qcV(p:yB7)(i:Int)(l:List Bool):Option ((Int×List Bool)⊕(List Bool)):=
 bif decide (i<(p.1.length:Int)) then(
 gd (inB i p.1.length)<|
 gd (fits (l.length+1) 1)<|
 some (.inl (wi64 (i+1),l++[(!decide (p.1.getD i.toNat 0=0))])))
 else(
 some (.inr l))
def qcW(p:yB7)(i2:Int)(l2:List Bool)(l3:List Bool):Option ((Int×List Bool×List Bool)⊕(List Bool×List Bool)):=
 bif decide (i2<(p.2.1.length:Int)) then(
 gd (inB i2 p.2.1.length)<|
 gd (fits (l3.length+1) 1)<|
 some (.inl (wi64 (i2+1),l2,l3++[(!decide (p.2.1.getD i2.toNat 0=0))])))
 else(
 some (.inr (l2,l3)))
def qgk(p:yB7):Option (List Bool×List Bool):=
 (iter (fun x=>qcV p x.1 x.2) (0,[])).bind fun s=>
 (iter (fun x2=>qcW p x2.1 x2.2.1 x2.2.2) (0,s,[])).bind fun s2=>
 some (s2.1,s2.2)
def qjn:Fun:=
 ⟨52,1,1,
 ⟨[(0,dd tT6)],[],[]⟩,
 ⟨[(0,.agg [.own 0,.own 1])],[],[(0,.arr 4 (.bool)),(1,.arr 4 (.bool))]⟩,
 fun x=>qgk x⟩
theorem qnN:FO qjn:=fi [] [] 43 [] ((nn (nn (mm (nn (mm (.mk [] (some (⟨[(1,pt 32 0),(2,pt 48 0),(3,pt 64 0),(4,ii)],v76_,[(1049,.arr 4 (.bool))]⟩,[⟨.x 0,⟨r41_,v76_,[(1049,.arr 4 (.bool))]⟩⟩])) .nil .nil) .nil)) (mm (nn (mm (.mk [] (some (⟨[(1,pt 32 0),(2,pt 48 0),(3,pt 64 0),(5,ii)],[(32,42,[.keep,.keep,.keep]),(48,122,[.keep,.keep]),(64,122,[.own 1049,.own 1065])],[(1049,.arr 4 (.bool)),(1065,.arr 4 (.bool))]⟩,[⟨.x 2,⟨r29_,[(48,122,[.keep,.keep]),(64,122,[.own 1049,.own 1065])],[(1049,.arr 4 (.bool)),(1065,.arr 4 (.bool))]⟩⟩])) .nil .nil) .nil)) .nil))))) func52 ⟨trivial,trivial⟩
def qjS(l:List Bool×List Bool):Option (List Bool):=
 gd (fits (0+l.1.length) 1)<|
 gd (fits (([]++l.1).length+l.2.length) 1)<|
 some (([]++l.1)++l.2)
def qmp:Fun:=
 ⟨51,1,1,
 ⟨[(0,dd (.pair (.sl (.bool)) (.sl (.bool))))],[],[]⟩,
 ⟨[(0,ow 0)],[],a145_⟩,
 fun x=>qjS x⟩
theorem qqD:FO qmp:=fi [3] [] 10 [] .nil func51 ⟨trivial,trivial⟩
def qjT(v:Int×Int×Bool×Bool):Option (Bool):=
 (qfj (v.1,v.2.1,v.2.2.1,v.2.2.2)).bind fun r=>
 bif r then(
 some (decide (v.2.1=v.1)))
 else(
 some false)
def qkD:Fun:=
 ⟨53,1,1,
 ⟨[(0,dd tT1)],[],[]⟩,
 ⟨[(0,bb)],[],[]⟩,
 fun x=>qjT x⟩
theorem qpo:FO qkD:=fi [] [qdE] 12 [] .nil func53 ⟨⟨qeK,trivial⟩,trivial⟩
def qhY(n:yB0)(p:yB7)(node:Int):Option (Int×Int):=
 (qfi (n.1,n.2.1,n.2.2.1,n.2.2.2.1,n.2.2.2.2.1,n.2.2.2.2.2) (p.1,p.2.1,p.2.2)).bind fun r=>
 bif !decide (r=0) then(
 some (0,r))
 else(
 Option.bind (α:=Bool) (
 bif decide (node<0) then(
 some true)
 else(
 some (decide ((n.1.length:Int)<=node)))) fun s=>
 bif s then(
 some (0,8))
 else(
 (qjP (n.1,n.2.1,n.2.2.1,n.2.2.2.1,n.2.2.2.2.1,n.2.2.2.2.2) (p.1,p.2.1,p.2.2) node).bind fun r2=>
 some (r2.1,0)))
def qlf:Fun:=
 ⟨120,3,2,
 ⟨r111_,[],[]⟩,
 ⟨r60_,[],[]⟩,
 fun x=>qhY x.1 x.2.1 x.2.2⟩
theorem qqU:FO qlf:=fi [] [qeI,qkx] 34 [] ((nn (nn (mm (mm (.mk [.join [⟨.n,⟨[(2,kk),(3,pt 64 0),(4,pt 80 0),(25,bb)],v25_,[]⟩⟩]] none .nil .nil) .nil) .nil)))) func120 ⟨⟨qgG,qpk,trivial⟩,trivial⟩
def qmq(n:yB0)(p:yB7)(i:Int):Option (Int⊕(Unit⊕Bool)):=
 bif decide (i<(n.2.2.2.1.length:Int)) then(
 gd (inB i p.2.2.length)<|
 Option.bind (α:=Unit⊕Bool) (
 bif p.2.2.getD i.toNat false then(
 gd (inB i n.2.2.2.1.length)<|
 (qhY (n.1,n.2.1,n.2.2.1,n.2.2.2.1,n.2.2.2.2.1,n.2.2.2.2.2) (p.1,p.2.1,p.2.2) (((n.2.2.2.1.getD i.toNat ([],0,0,0,0)).2).1)).bind fun r=>
 Option.bind (α:=Bool) (
 bif !decide (r.2=0) then(
 some true)
 else(
 some (decide (r.1=0)))) fun s=>
 bif s then(
 some (.inr false))
 else(
 some (.inl ())))
 else(
 some (.inl ()))) fun s2=>
 s2.elim (fun s3=>
 some (.inl (wi64 (i+1))))
 (fun s4=>
 some (.inr (.inr s4))))
 else(
 some (.inr (.inl ())))
def qjU(n:yB0)(p:yB7):Option (Bool):=
 (iter (fun x=>qmq n p x) 0).bind fun s5=>
 s5.elim (fun s6=>
 some true)
 (fun s7=>
 some s7)
def qi9:Fun:=
 ⟨54,2,1,
 ⟨r53_,[],[]⟩,
 ⟨[(0,bb)],[],[]⟩,
 fun x=>qjU x.1 x.2⟩
theorem qmr:FO qi9:=fi [] [qlf] 38 [] ((nn (mm (nn (mm (.mk [] (some (⟨r102_,v0_,[]⟩,[⟨.x 0,⟨[],[],[]⟩⟩,⟨.r,⟨[(4,bb)],[],[]⟩⟩])) (nn (mm (mm (nn (.mk [.join [⟨.n,⟨[(2,pt 48 0),(3,pt 64 0),(5,kk)],v0_,[]⟩⟩,⟨.r,⟨[(4,bb)],[],[]⟩⟩]] none (nn (mm (.mk [.join [⟨.n,⟨[(2,pt 48 0),(3,pt 64 0),(5,kk),(37,bb)],v0_,[]⟩⟩]] none .nil .nil) .nil)) .nil)) .nil) .nil)) .nil) .nil)) .nil))) func54 ⟨⟨qqU,trivial⟩,trivial⟩
def qbF(d:yB5)(i:Int)(need:List Bool):Option ((Int×List Bool)⊕(Unit⊕Int)):=
 bif decide (i<(need.length:Int)) then(
 Option.bind (α:=Bool×List Bool) (
 gd (inB i need.length)<|
 bif need.getD i.toNat false then(
 gd (inB i d.1.length)<|
 (qjT (d.1.getD i.toNat (0,0,false,false))).bind fun r6=>
 bif !r6 then(
 some (true,need))
 else(
 gd (inB i d.1.length)<|
 some ((!((((d.1.getD i.toNat (0,(0,(false,false)))).2).2).1)),need)))
 else(
 some (false,need))) fun s=>
 bif s.1 then(
 some (.inr (.inr 21)))
 else(
 some (.inl (wi64 (i+1),s.2))))
 else(
 some (.inr (.inl ())))
def qiE(n:yB0)(d:yB5):Option (Int):=
 (qd2 (n.1,n.2.1,n.2.2.1,n.2.2.2.1,n.2.2.2.2.1,n.2.2.2.2.2)).bind fun r=>
 bif !decide (r=0) then(
 some r)
 else(
 (qi8 (n.1,n.2.1,n.2.2.1,n.2.2.2.1,n.2.2.2.2.1,n.2.2.2.2.2) d.1).bind fun r2=>
 bif !decide (r2=0) then(
 some r2)
 else(
 (qfi (n.1,n.2.1,n.2.2.1,n.2.2.2.1,n.2.2.2.2.1,n.2.2.2.2.2) (d.2.1,d.2.2.1,d.2.2.2)).bind fun r3=>
 bif !decide (r3=0) then(
 some r3)
 else(
 (qgk (d.2.1,d.2.2.1,d.2.2.2)).bind fun r4=>
 (qjS (r4.1,r4.2)).bind fun r5=>
 (iter (fun x=>qbF d x.1 x.2) (0,r5)).bind fun s2=>
 s2.elim (fun s3=>
 (qjU (n.1,n.2.1,n.2.2.1,n.2.2.2.1,n.2.2.2.2.1,n.2.2.2.2.2) (d.2.1,d.2.2.1,d.2.2.2)).bind fun r7=>
 bif !r7 then(
 some 21)
 else(
 some 0))
 (fun s4=>
 some s4))))
def qjo:Fun:=
 ⟨18,2,1,
 ⟨[(0,dd tT0),(1,dd (.pair (.sl tT1) tT6))],[],[]⟩,
 ⟨[(0,ii)],[],[]⟩,
 fun x=>qiE x.1 x.2⟩
theorem qnO:FO qjo:=fi [] [qdD,qmo,qeI,qjn,qmp,qkD,qi9] 66 [] ((nn (nn (nn (nn (nn (mm (nn (mm (.mk [] (some (⟨[(2,pt 48 0),(3,pt 64 0),(8,ow 528),(9,ii)],v42_,[(528,.arr 4 (.bool))]⟩,[⟨.x 0,⟨r29_,v42_,[]⟩⟩,⟨.r,⟨[(4,ii)],[],[]⟩⟩])) (nn (mm (mm (mm (.mk [.join [⟨.n,⟨[(2,pt 48 0),(3,pt 64 0),(8,ow 528),(9,kk),(60,bb)],v42_,[(528,.arr 4 (.bool))]⟩⟩]] none .nil .nil) .nil) .nil) .nil)) .nil) .nil)) .nil))))))) func18 ⟨⟨qeH,qsn,qgG,qnN,qqD,qpo,qmr,trivial⟩,trivial⟩
def qmX(p:yB8):Option (Bool):=
 bif decide (p.1=0) then(
 bif decide (p.2.1=0) then(
 bif decide ((p.2.2.1.length:Int)=0) then(
 some (decide (p.2.2.2=0)))
 else(
 some false))
 else(
 some false))
 else(
 some false)
def qpp:Fun:=
 ⟨183,1,1,
 ⟨r113_,[],[]⟩,
 ⟨[(0,bb)],[],[]⟩,
 fun x=>qmX x⟩
theorem quu:FO qpp:=fi [] [] 22 [] .nil func183 ⟨trivial,trivial⟩
def qja(s:yB6):Option (Bool):=
 Option.bind (α:=Bool) (
 bif decide (s.1=1) then(
 some (decide (s.1=1)))
 else(
 Option.bind (α:=Bool) (
 bif decide (s.1=2) then(
 some (decide (s.1=2)))
 else(
 Option.bind (α:=Bool) (
 bif decide (s.1=3) then(
 some (decide (s.1=3)))
 else(
 some (decide (s.1=4)))) fun s2=>
 some s2)) fun s3=>
 some s3)) fun s4=>
 bif s4 then(
 bif decide (s.2.2.1=0) then(
 (qmX (s.2.2.2.1,s.2.2.2.2.1,s.2.2.2.2.2.1,s.2.2.2.2.2.2)).bind fun r=>
 some r)
 else(
 some false))
 else(
 bif decide (s.1=5) then(
 bif decide (s.2.1=0) then(
 some (decide (s.2.2.2.2.2.2=0)))
 else(
 some false))
 else(
 bif decide (s.1=6) then(
 bif decide (s.2.1=0) then(
 (qmX (s.2.2.2.1,s.2.2.2.2.1,s.2.2.2.2.2.1,s.2.2.2.2.2.2)).bind fun r2=>
 some r2)
 else(
 some false))
 else(
 some false)))
def qms:Fun:=
 ⟨96,1,1,
 ⟨[(0,dd tT2)],[],[]⟩,
 ⟨[(0,bb)],[],[]⟩,
 fun x=>qja x⟩
theorem qso:FO qms:=fi [] [qpp] 39 [] ((nn (mm (nn (mm (mm (nn (.mk [.join [⟨.n,⟨r94_,[(32,57,kp 7)],[]⟩⟩]] none .nil (nn (.mk [.join [⟨.n,⟨r94_,[(32,57,kp 7)],[]⟩⟩]] none .nil (nn (.mk [.join [⟨.n,⟨r94_,[(32,57,kp 7)],[]⟩⟩]] none .nil .nil)))))) .nil) .nil)) .nil))) func96 ⟨⟨quu,trivial⟩,trivial⟩
def qkE(v:Int×Int×Bool×Bool)(vopen:Bool):Option ((Int×Int×Bool×Bool)×Int):=
 (qfj (v.1,v.2.1,v.2.2.1,v.2.2.2)).bind fun r=>
 bif !r then(
 some ((v.1,(v.2.1,(v.2.2.1,v.2.2.2))),20))
 else(
 some ((v.1,(v.2.1,(vopen,v.2.2.2))),0))
def qlg:Fun:=
 ⟨184,2,2,
 ⟨[(0,dd tT1),(1,bb)],[],[]⟩,
 ⟨r82_,[],[]⟩,
 fun x=>qkE x.1 x.2⟩
theorem qqV:FO qlg:=fi [] [qdE] 13 [] .nil func184 ⟨⟨qeK,trivial⟩,trivial⟩
def qmY(d:yB5)(s:yB6):Option (yB5×Int):=
 Option.bind (α:=Bool) (
 bif decide (s.2.1<0) then(
 some true)
 else(
 some (decide ((d.1.length:Int)<=s.2.1)))) fun s2=>
 bif s2 then(
 some ((d.1,(d.2.1,(d.2.2.1,d.2.2.2))),8))
 else(
 Option.bind (α:=Bool) (
 bif decide (s.1=2) then(
 (qgk (d.2.1,d.2.2.1,d.2.2.2)).bind fun r=>
 (qjS (r.1,r.2)).bind fun r2=>
 gd (inB s.2.1 r2.length)<|
 some (r2.getD s.2.1.toNat false))
 else(
 some false)) fun s3=>
 bif s3 then(
 some ((d.1,(d.2.1,(d.2.2.1,d.2.2.2))),22))
 else(
 (qeh (d.1,d.2.1,d.2.2.1,d.2.2.2)).bind fun r3=>
 gd (inB s.2.1 r3.1.length)<|
 (qkE (r3.1.getD s.2.1.toNat (0,0,false,false)) (decide (s.1=1))).bind fun r4=>
 gd (inB s.2.1 r3.1.length)<|
 some ((r3.1.set s.2.1.toNat r4.1,(r3.2.1,(r3.2.2.1,r3.2.2.2))),0)))
def qpq:Fun:=
 ⟨97,2,2,
 ⟨[(0,dd (.pair (.sl tT1) tT6)),(1,dd tT2)],[],[]⟩,
 ⟨r48_,[],[]⟩,
 fun x=>qmY x.1 x.2⟩
theorem quv:FO qpq:=fi [] [qjn,qmp,qei,qlg] 54 [] ((nn (mm (mm (.mk [.join [⟨.n,⟨[(2,pt 48 0),(3,pt 64 0),(4,pt 80 0),(17,bb)],v137_,[]⟩⟩]] none .nil .nil) .nil) (mm (mm (.mk [.join [⟨.n,⟨[(2,pt 48 0),(3,pt 64 0),(4,pt 80 0),(31,bb)],v137_,[]⟩⟩]] none .nil .nil) .nil) .nil)))) func97 ⟨⟨qnN,qqD,qfY,qqV,trivial⟩,trivial⟩
def qmZ(n:yB0)(d:yB5)(s:yB6):Option (yB5×Int):=
 Option.bind (α:=Bool) (
 bif decide (s.2.1<0) then(
 some true)
 else(
 some (decide ((n.2.2.2.1.length:Int)<=s.2.1)))) fun s2=>
 bif s2 then(
 some ((d.1,(d.2.1,(d.2.2.1,d.2.2.2))),8))
 else(
 (qeh (d.1,d.2.1,d.2.2.1,d.2.2.2)).bind fun r=>
 gd (inB s.2.1 r.2.2.2.length)<|
 (qjU (n.1,n.2.1,n.2.2.1,n.2.2.2.1,n.2.2.2.2.1,n.2.2.2.2.2) (r.2.1,r.2.2.1,r.2.2.2.set s.2.1.toNat (decide (s.1=3)))).bind fun r2=>
 bif !r2 then(
 some ((d.1,(d.2.1,(d.2.2.1,d.2.2.2))),22))
 else(
 some ((r.1,(r.2.1,(r.2.2.1,r.2.2.2.set s.2.1.toNat (decide (s.1=3))))),0)))
def qpr:Fun:=
 ⟨98,3,2,
 ⟨r56_,[],[]⟩,
 ⟨r48_,[],[]⟩,
 fun x=>qmZ x.1 x.2.1 x.2.2⟩
theorem quw:FO qpr:=fi [] [qei,qi9] 39 [] ((nn (mm (mm (.mk [.join [⟨.n,⟨[(3,pt 64 0),(4,pt 80 0),(5,pt 96 0),(6,pt 112 0),(19,bb)],v34_,[]⟩⟩]] none .nil .nil) .nil) .nil))) func98 ⟨⟨qfY,qmr,trivial⟩,trivial⟩
def qbG(r:Int×Int)(k:Int)(seen2:List Int):Option ((Int×List Int)⊕((List Int)⊕Bool)):=
 bif decide (k<(seen2.length:Int)) then(
 gd (inB k seen2.length)<|
 bif decide (seen2.getD k.toNat 0=r.2) then(
 some (.inr (.inr false)))
 else(
 some (.inl (wi64 (k+1),seen2))))
 else(
 some (.inr (.inl seen2)))
def qcX(n:yB0)(p:yB8)(vat:Int)(i:Int)(seen:List Int):Option ((Int×Int×List Int)⊕(Int⊕Bool)):=
 bif decide (i<(p.2.2.1.length:Int)) then(
 Option.bind (α:=Bool×List Int) (
 gd (inB i p.2.2.1.length)<|
 bif decide ((p.2.2.1.getD i.toNat (0,false)).1<0) then(
 some (true,seen))
 else(
 gd (inB i p.2.2.1.length)<|
 some (decide ((n.2.1.length:Int)<=(p.2.2.1.getD i.toNat (0,false)).1),seen))) fun s2=>
 bif s2.1 then(
 some (.inr (.inr false)))
 else(
 gd (inB i p.2.2.1.length)<|
 (qmV (n.1,n.2.1,n.2.2.1,n.2.2.2.1,n.2.2.2.2.1,n.2.2.2.2.2) (p.2.2.1.getD i.toNat (0,false))).bind fun r=>
 bif !decide (r.1=vat) then(
 some (.inr (.inr false)))
 else(
 (iter (fun x=>qbG r x.1 x.2) (0,s2.2)).bind fun s3=>
 s3.elim (fun s4=>
 gd (fits (s4.length+1) 8)<|
 some (.inl (r.2,wi64 (i+1),s4++[r.2])))
 (fun s5=>
 some (.inr (.inr s5))))))
 else(
 some (.inr (.inl vat)))
def qkF(n:yB0)(p:yB8):Option (Bool):=
 Option.bind (α:=Bool) (
 bif decide (p.1<0) then(
 some true)
 else(
 bif decide ((n.2.2.1.length:Int)<=p.1) then(
 some true)
 else(
 bif decide (p.2.1<0) then(
 some true)
 else(
 bif decide ((n.2.2.1.length:Int)<=p.2.1) then(
 some true)
 else(
 bif decide (p.1=p.2.1) then(
 some true)
 else(
 bif decide (p.2.2.2<1) then(
 some true)
 else(
 bif decide (1000<p.2.2.2) then(
 some true)
 else(
 some (decide (32<(p.2.2.1.length:Int))))))))))) fun s=>
 bif s then(
 some false)
 else(
 gd (inB p.1 n.2.2.1.length)<|
 (iter (fun x2=>qcX n p x2.1 x2.2.1 x2.2.2) (((n.2.2.1.getD p.1.toNat ([],0,0)).2).1,0,[((n.2.2.1.getD p.1.toNat ([],0,0)).2).1])).bind fun s6=>
 s6.elim (fun s7=>
 gd (inB p.2.1 n.2.2.1.length)<|
 some (decide (s7=((n.2.2.1.getD p.2.1.toNat ([],(0,0))).2).1)))
 (fun s8=>
 some s8))
def qnP:Fun:=
 ⟨236,2,1,
 ⟨r33_,[],[]⟩,
 ⟨[(0,bb)],[],[]⟩,
 fun x=>qkF x.1 x.2⟩
theorem qs5:FO qnP:=fi [66] [qkz] 132 [] ((nn (mm (mm (.mk [.join [⟨.n,⟨[(2,pt 48 0),(3,pt 64 0),(57,bb)],v63_,[]⟩⟩]] none .nil .nil) .nil) (nn (nn (mm (nn (mm (.mk [] (some (⟨[(2,pt 48 0),(3,pt 64 0),(5,ii),(6,ow 123),(7,ii)],v63_,[(123,.arr 3 I6)]⟩,[⟨.x 0,⟨r102_,v63_,[]⟩⟩,⟨.r,⟨[(4,bb)],[],[]⟩⟩])) (nn (mm (mm (mm (mm (.mk [.join [⟨.n,⟨[(2,pt 48 0),(3,pt 64 0),(5,kk),(6,ow 123),(7,kk),(92,bb)],v63_,[(123,.arr 3 I6)]⟩⟩]] none .nil .nil) .nil) (nn (nn (mm (nn (mm (.mk [] (some (⟨[(2,pt 48 0),(3,pt 64 0),(6,ow 123),(7,kk),(9,kk),(10,ii)],v63_,[(123,.arr 3 I6)]⟩,[⟨.x 2,⟨[(2,pt 48 0),(3,pt 64 0),(6,ow 123),(7,kk),(9,kk)],v63_,[(123,.arr 3 I6)]⟩⟩,⟨.r,⟨[(4,bb)],[],[]⟩⟩])) .nil .nil) .nil)) .nil)))) .nil) .nil)) .nil) .nil)) .nil)))))) func236 ⟨⟨qpl,trivial⟩,trivial⟩
def qkG(n:yB0)(p:yB8):Option (Bool):=
 (qd2 (n.1,n.2.1,n.2.2.1,n.2.2.2.1,n.2.2.2.2.1,n.2.2.2.2.2)).bind fun r=>
 bif decide (r=0) then(
 (qkF (n.1,n.2.1,n.2.2.1,n.2.2.2.1,n.2.2.2.2.1,n.2.2.2.2.2) (p.1,p.2.1,p.2.2.1,p.2.2.2)).bind fun r2=>
 some r2)
 else(
 some false)
def qnQ:Fun:=
 ⟨185,2,1,
 ⟨r33_,[],[]⟩,
 ⟨[(0,bb)],[],[]⟩,
 fun x=>qkG x.1 x.2⟩
theorem qs6:FO qnQ:=fi [] [qdD,qnP] 13 [] .nil func185 ⟨⟨qeH,qs5,trivial⟩,trivial⟩
def qcY(p:yB8)(i:Int)(l:List Int):Option ((Int×List Int)⊕(List Int)):=
 bif decide (i<(p.2.2.1.length:Int)) then(
 gd (inB i p.2.2.1.length)<|
 gd (fits (l.length+1) 8)<|
 some (.inl (wi64 (i+1),l++[(p.2.2.1.getD i.toNat (0,false)).1])))
 else(
 some (.inr l))
def qbH(d:yB5)(i2:Int)(l2:List Int):Option ((Int×List Int)⊕(Unit⊕Bool)):=
 bif decide (i2<(l2.length:Int)) then(
 Option.bind (α:=Bool×List Int) (
 gd (inB i2 l2.length)<|
 gd (inB (l2.getD i2.toNat 0) d.1.length)<|
 (qjT (d.1.getD (l2.getD i2.toNat 0).toNat (0,0,false,false))).bind fun r=>
 bif !r then(
 some (true,l2))
 else(
 gd (inB i2 l2.length)<|
 gd (inB (l2.getD i2.toNat 0) d.1.length)<|
 some ((!((((d.1.getD (l2.getD i2.toNat 0).toNat (0,(0,(false,false)))).2).2).1)),l2))) fun s2=>
 bif s2.1 then(
 some (.inr (.inr false)))
 else(
 some (.inl (wi64 (i2+1),s2.2))))
 else(
 some (.inr (.inl ())))
def qkH(n:yB0)(d:yB5)(p:yB8):Option (Bool):=
 (iter (fun x=>qcY p x.1 x.2) (0,[wi64 ((n.2.1.length:Int)+p.1),wi64 ((n.2.1.length:Int)+p.2.1)])).bind fun s=>
 (iter (fun x2=>qbH d x2.1 x2.2) (0,s)).bind fun s3=>
 s3.elim (fun s4=>
 some true)
 (fun s5=>
 some s5)
def qnR:Fun:=
 ⟨186,3,1,
 ⟨[(0,dd tT0),(1,dd (.pair (.sl tT1) tT6)),(2,dd (.pair I6 (.pair I6 (.pair (.sl (.pair I6 (.bool))) I6))))],[],[]⟩,
 ⟨[(0,bb)],[],[]⟩,
 fun x=>qkH x.1 x.2.1 x.2.2⟩
theorem qs7:FO qnR:=fi [22] [qkD] 67 [] ((nn (nn (mm (nn (mm (.mk [] (some (⟨[(4,pt 80 0),(5,pt 96 0),(7,ow 139),(8,ii)],[(80,44,kp 4),(96,55,kp 4)],a119_⟩,[⟨.x 0,⟨[(4,pt 80 0),(7,ow 139)],[(80,44,kp 4)],a119_⟩⟩])) .nil .nil) .nil)) (mm (nn (mm (.mk [] (some (⟨[(4,pt 80 0),(7,ow 139),(9,ii)],[(80,44,kp 4)],a119_⟩,[⟨.x 2,⟨[],[],[]⟩⟩,⟨.r,⟨[(6,bb)],[],[]⟩⟩])) (nn (mm (mm (mm (.mk [.join [⟨.n,⟨[(4,pt 80 0),(7,ow 139),(9,kk),(66,bb)],[(80,44,kp 4)],a119_⟩⟩]] none .nil .nil) .nil) .nil) .nil)) .nil) .nil)) .nil))))) func186 ⟨⟨qpo,trivial⟩,trivial⟩
def qcd(d:yB5)(s:yB6)(i:Int)(v:yB4)(v2:List Int)(v3:List Int)(v4:List Bool)(p:List (Int×Bool))(x:yB4)(x2:List Int)(x3:List Int)(x4:List Bool):Option ((Int×yB4×List Int×List Int×List Bool×(List (Int×Bool))×yB4×List Int×List Int×List Bool)⊕((yB4×List Int×List Int×List Bool×yB4×List Int×List Int×List Bool)⊕yB10)):=
 bif decide (i<(p.length:Int)) then(
 gd (inB i p.length)<|
 Option.bind (α:=Int×(List (Int×Bool))×yB4×List Int×List Int×List Bool) (
 bif (p.getD i.toNat (0,false)).2 then(
 some ((-1),p,x,x2,x3,x4))
 else(
 some (1,p,x,x2,x3,x4))) fun s4=>
 gd (inB ((p.getD i.toNat (0,false)).1) d.2.1.length)<|
 Option.bind (α:=Bool×(List (Int×Bool))×yB4×List Int×List Int×List Bool) (
 bif decide (wi64 (s4.1*(d.2.1.getD ((p.getD i.toNat (0,false)).1).toNat 0))<0) then(
 some (true,s4.2.1,s4.2.2.1,s4.2.2.2.1,s4.2.2.2.2.1,s4.2.2.2.2.2))
 else(
 some (decide (wi64 ((wi64 (s4.1*(d.2.1.getD ((p.getD i.toNat (0,false)).1).toNat 0)))+s.2.2.1)<0),s4.2.1,s4.2.2.1,s4.2.2.2.1,s4.2.2.2.2.1,s4.2.2.2.2.2))) fun s5=>
 bif s5.1 then(
 some (.inr (.inr (22,d.1,d.2.1,d.2.2.1,d.2.2.2))))
 else(
 gd (inB ((p.getD i.toNat (0,false)).1) s5.2.2.2.1.length)<|
 some (.inl (wi64 (i+1),v,v2,v3,v4,s5.2.1,s5.2.2.1,s5.2.2.2.1.set (((p.getD i.toNat (0,false)).1).toNat) (wi64 (s4.1*(wi64 ((wi64 (s4.1*(d.2.1.getD ((p.getD i.toNat (0,false)).1).toNat 0)))+s.2.2.1)))),s5.2.2.2.2.1,s5.2.2.2.2.2))))
 else(
 some (.inr (.inl (v,v2,v3,v4,x,x2,x3,x4))))
def qm0(n:yB0)(d:yB5)(s:yB6):Option (yB5×Int):=
 Option.bind (α:=Bool) (
 bif decide (s.2.2.1<(-1000)) then(
 some true)
 else(
 some (decide (1000<s.2.2.1)))) fun s2=>
 bif s2 then(
 some ((d.1,(d.2.1,(d.2.2.1,d.2.2.2))),23))
 else(
 (qjQ (s.2.2.2.1,s.2.2.2.2.1,s.2.2.2.2.2.1,s.2.2.2.2.2.2)).bind fun r=>
 (qkG (n.1,n.2.1,n.2.2.1,n.2.2.2.1,n.2.2.2.2.1,n.2.2.2.2.2) (r.1,r.2.1,r.2.2.2,max s.2.2.1 (wi64 (0-s.2.2.1)))).bind fun r2=>
 bif !r2 then(
 some ((d.1,(d.2.1,(d.2.2.1,d.2.2.2))),23))
 else(
 (qeh (d.1,d.2.1,d.2.2.1,d.2.2.2)).bind fun r3=>
 (qkH (n.1,n.2.1,n.2.2.1,n.2.2.2.1,n.2.2.2.2.1,n.2.2.2.2.2) (r3.1,r3.2.1,r3.2.2.1,r3.2.2.2) (r.1,r.2.1,r.2.2.2,max s.2.2.1 (wi64 (0-s.2.2.1)))).bind fun r4=>
 bif !r4 then(
 some ((d.1,(d.2.1,(d.2.2.1,d.2.2.2))),22))
 else(
 gd (inB r.1 r3.2.2.1.length)<|
 gd (inB r.1 r3.2.2.1.length)<|
 gd (inB r.2.1 (r3.2.2.1.set r.1.toNat (wi64 ((r3.2.2.1.getD r.1.toNat 0)+s.2.2.1))).length)<|
 gd (inB r.2.1 (r3.2.2.1.set r.1.toNat (wi64 ((r3.2.2.1.getD r.1.toNat 0)+s.2.2.1))).length)<|
 Option.bind (α:=Bool×(List (Int×Bool))×yB4×List Int×List Int×List Bool) (
 gd (inB r.1 ((r3.2.2.1.set r.1.toNat (wi64 ((r3.2.2.1.getD r.1.toNat 0)+s.2.2.1))).set r.2.1.toNat (wi64 (((r3.2.2.1.set r.1.toNat (wi64 ((r3.2.2.1.getD r.1.toNat 0)+s.2.2.1))).getD r.2.1.toNat 0)-s.2.2.1))).length)<|
 bif decide (((r3.2.2.1.set r.1.toNat (wi64 ((r3.2.2.1.getD r.1.toNat 0)+s.2.2.1))).set r.2.1.toNat (wi64 (((r3.2.2.1.set r.1.toNat (wi64 ((r3.2.2.1.getD r.1.toNat 0)+s.2.2.1))).getD r.2.1.toNat 0)-s.2.2.1))).getD r.1.toNat 0<0) then(
 some (true,r.2.2.2,r3.1,r3.2.1,(r3.2.2.1.set r.1.toNat (wi64 ((r3.2.2.1.getD r.1.toNat 0)+s.2.2.1))).set r.2.1.toNat (wi64 (((r3.2.2.1.set r.1.toNat (wi64 ((r3.2.2.1.getD r.1.toNat 0)+s.2.2.1))).getD r.2.1.toNat 0)-s.2.2.1)),r3.2.2.2))
 else(
 gd (inB r.2.1 ((r3.2.2.1.set r.1.toNat (wi64 ((r3.2.2.1.getD r.1.toNat 0)+s.2.2.1))).set r.2.1.toNat (wi64 (((r3.2.2.1.set r.1.toNat (wi64 ((r3.2.2.1.getD r.1.toNat 0)+s.2.2.1))).getD r.2.1.toNat 0)-s.2.2.1))).length)<|
 bif decide (0<((r3.2.2.1.set r.1.toNat (wi64 ((r3.2.2.1.getD r.1.toNat 0)+s.2.2.1))).set r.2.1.toNat (wi64 (((r3.2.2.1.set r.1.toNat (wi64 ((r3.2.2.1.getD r.1.toNat 0)+s.2.2.1))).getD r.2.1.toNat 0)-s.2.2.1))).getD r.2.1.toNat 0) then(
 some (true,r.2.2.2,r3.1,r3.2.1,(r3.2.2.1.set r.1.toNat (wi64 ((r3.2.2.1.getD r.1.toNat 0)+s.2.2.1))).set r.2.1.toNat (wi64 (((r3.2.2.1.set r.1.toNat (wi64 ((r3.2.2.1.getD r.1.toNat 0)+s.2.2.1))).getD r.2.1.toNat 0)-s.2.2.1)),r3.2.2.2))
 else(
 gd (inB r.1 d.2.2.1.length)<|
 bif decide (d.2.2.1.getD r.1.toNat 0<0) then(
 some (true,r.2.2.2,r3.1,r3.2.1,(r3.2.2.1.set r.1.toNat (wi64 ((r3.2.2.1.getD r.1.toNat 0)+s.2.2.1))).set r.2.1.toNat (wi64 (((r3.2.2.1.set r.1.toNat (wi64 ((r3.2.2.1.getD r.1.toNat 0)+s.2.2.1))).getD r.2.1.toNat 0)-s.2.2.1)),r3.2.2.2))
 else(
 gd (inB r.2.1 d.2.2.1.length)<|
 some (decide (0<d.2.2.1.getD r.2.1.toNat 0),r.2.2.2,r3.1,r3.2.1,(r3.2.2.1.set r.1.toNat (wi64 ((r3.2.2.1.getD r.1.toNat 0)+s.2.2.1))).set r.2.1.toNat (wi64 (((r3.2.2.1.set r.1.toNat (wi64 ((r3.2.2.1.getD r.1.toNat 0)+s.2.2.1))).getD r.2.1.toNat 0)-s.2.2.1)),r3.2.2.2))))) fun s3=>
 bif s3.1 then(
 some ((d.1,(d.2.1,(d.2.2.1,d.2.2.2))),22))
 else(
 (iter (fun x5=>qcd d s x5.1 x5.2.1 x5.2.2.1 x5.2.2.2.1 x5.2.2.2.2.1 x5.2.2.2.2.2.1 x5.2.2.2.2.2.2.1 x5.2.2.2.2.2.2.2.1 x5.2.2.2.2.2.2.2.2.1 x5.2.2.2.2.2.2.2.2.2) (0,[],[],[],[],s3.2.1,s3.2.2.1,s3.2.2.2.1,s3.2.2.2.2.1,s3.2.2.2.2.2)).bind fun s6=>
 s6.elim (fun s7=>
 (qfi (n.1,n.2.1,n.2.2.1,n.2.2.2.1,n.2.2.2.2.1,n.2.2.2.2.2) (s7.2.2.2.2.2.1,s7.2.2.2.2.2.2.1,s7.2.2.2.2.2.2.2)).bind fun r5=>
 bif !decide (r5=0) then(
 some ((d.1,(d.2.1,(d.2.2.1,d.2.2.2))),r5))
 else(
 (qjU (n.1,n.2.1,n.2.2.1,n.2.2.2.1,n.2.2.2.2.1,n.2.2.2.2.2) (s7.2.2.2.2.2.1,s7.2.2.2.2.2.2.1,s7.2.2.2.2.2.2.2)).bind fun r6=>
 bif !r6 then(
 some ((d.1,(d.2.1,(d.2.2.1,d.2.2.2))),22))
 else(
 some ((s7.2.2.2.2.1,(s7.2.2.2.2.2.1,(s7.2.2.2.2.2.2.1,s7.2.2.2.2.2.2.2))),0))))
 (fun s8=>
 some ((s8.2.1,(s8.2.2.1,(s8.2.2.2.1,s8.2.2.2.2))),s8.1))))))
def qps:Fun:=
 ⟨99,3,2,
 ⟨r56_,[],[]⟩,
 ⟨r48_,[],[]⟩,
 fun x=>qm0 x.1 x.2.1 x.2.2⟩
theorem qux:FO qps:=fi [] [qkA,qnQ,qei,qnR,qeI,qi9] 178 [] ((nn (mm (mm (.mk [.join [⟨.n,⟨[(3,pt 64 0),(4,pt 80 0),(5,pt 96 0),(6,pt 112 0),(22,bb)],v34_,[]⟩⟩]] none .nil .nil) .nil) (nn (nn (nn (nn (nn (nn (nn (mm (mm (.mk [.join [⟨.n,⟨[(3,pt 64 0),(4,pt 80 0),(5,pt 96 0),(6,pt 112 0),(8,pt 144 0),(9,pt 160 0),(116,bb)],[(64,32,kp 6),(80,44,kp 4),(96,57,kp 7),(112,44,kp 4),(144,55,[.keep,.keep,.own 432,.keep]),(160,44,[.own 656,.own 657,.own 658,.own 659])],a15_⟩⟩]] none .nil .nil) .nil) (mm (nn (mm (.mk [] (some (⟨[(3,pt 64 0),(4,pt 80 0),(5,pt 96 0),(6,pt 112 0),(8,pt 144 0),(9,pt 160 0),(10,ii)],[(64,32,kp 6),(80,44,kp 4),(96,57,kp 7),(112,44,[.data (.sl tT1),.data (.sl I6),.data (.sl I6),.data (.sl (.bool))]),(144,55,[.keep,.keep,.own 432,.keep]),(160,44,[.own 656,.own 657,.own 658,.own 659])],a15_⟩,[⟨.x 0,⟨[(3,pt 64 0),(4,pt 80 0),(6,pt 112 0),(9,pt 160 0)],[(64,32,kp 6),(80,44,kp 4),(112,44,[.data (.sl tT1),.data (.sl I6),.data (.sl I6),.data (.sl (.bool))]),(160,44,[.own 656,.own 657,.own 658,.own 659])],[(656,.arr 126 tT1),(657,.arr 3 I6),(658,.arr 3 I6),(659,.arr 4 (.bool))]⟩⟩,⟨.r,⟨[(6,pt 112 0),(7,ii)],[(112,44,[.data (.sl tT1),.data (.sl I6),.data (.sl I6),.data (.sl (.bool))])],[]⟩⟩])) (nn (mm (mm (nn (nn (mm (nn (.mk [.join [⟨.n,⟨[(3,pt 64 0),(4,pt 80 0),(5,pt 96 0),(6,pt 112 0),(8,pt 144 0),(9,pt 160 0),(10,kk),(11,pt 192 0),(12,ii)],v20_,a15_⟩⟩]] none .nil .nil)) (nn (mm (mm (.mk [.join [⟨.n,⟨[(3,pt 64 0),(4,pt 80 0),(5,pt 96 0),(6,pt 112 0),(8,pt 144 0),(9,pt 160 0),(10,kk),(11,pt 192 0),(12,kk),(13,kk),(149,bb)],v20_,a15_⟩⟩]] none .nil .nil) .nil) .nil))))) .nil) .nil)) .nil) .nil)) .nil)))))))))))) func99 ⟨⟨qpm,qs6,qfY,qs7,qgG,qmr,trivial⟩,trivial⟩
def qm1(v:Int×Int×Bool×Bool):Option ((Int×Int×Bool×Bool)×Int):=
 (qfj (v.1,v.2.1,v.2.2.1,v.2.2.2)).bind fun r=>
 bif !r then(
 some ((v.1,(v.2.1,(v.2.2.1,v.2.2.2))),20))
 else(
 bif v.2.2.2 then(
 some ((v.1,(v.2.1,(v.2.2.1,v.2.2.2))),0))
 else(
 Option.bind (α:=Bool) (
 bif v.2.2.1 then(
 some (decide (v.2.1<v.1)))
 else(
 some false)) fun s=>
 Option.bind (α:=Int) (
 bif s then(
 some (wi64 (v.2.1+1)))
 else(
 Option.bind (α:=Bool) (
 bif !v.2.2.1 then(
 some (decide (0<v.2.1)))
 else(
 some false)) fun s2=>
 Option.bind (α:=Int) (
 bif s2 then(
 some (wi64 (v.2.1-1)))
 else(
 some v.2.1)) fun s3=>
 some s3)) fun s4=>
 some ((v.1,(s4,(v.2.2.1,v.2.2.2))),0)))
def qpt:Fun:=
 ⟨187,1,2,
 ⟨[(0,dd tT1)],[],[]⟩,
 ⟨r82_,[],[]⟩,
 fun x=>qm1 x⟩
theorem quy:FO qpt:=fi [] [qdE] 37 [] ((nn (nn (nn (mm (mm (.mk [.join [⟨.n,⟨[(1,pt 32 0),(2,pt 48 0),(19,bb)],[(32,126,kp 4),(48,126,kp 4)],[]⟩⟩]] none .nil .nil) (.mk [.join [⟨.n,⟨[(1,pt 32 0),(2,pt 48 0)],v122_,[]⟩⟩]] none .nil (mm (.mk [.join [⟨.n,⟨[(1,pt 32 0),(2,pt 48 0),(31,bb)],[(32,126,kp 4),(48,126,kp 4)],[]⟩⟩]] none .nil .nil) (.mk [.join [⟨.n,⟨[(1,pt 32 0),(2,pt 48 0)],v122_,[]⟩⟩]] none .nil .nil)))) .nil))))) func187 ⟨⟨qeK,trivial⟩,trivial⟩
def qdm(ticks:Int)(i:Int)(v2:Int)(v3:Int)(v4:Bool)(v5:Bool):Option ((Int×Int×Int×Bool×Bool)⊕(Int×Int×Bool×Bool)):=
 bif decide (i<ticks) then(
 (qm1 (v2,v3,v4,v5)).bind fun r2=>
 some (.inl (wi64 (i+1),r2.1.1,r2.1.2.1,r2.1.2.2.1,r2.1.2.2.2)))
 else(
 some (.inr (v2,v3,v4,v5)))
def qm2(v:Int×Int×Bool×Bool)(ticks:Int):Option ((Int×Int×Bool×Bool)×Int):=
 (qfj (v.1,v.2.1,v.2.2.1,v.2.2.2)).bind fun r=>
 bif !r then(
 some ((v.1,(v.2.1,(v.2.2.1,v.2.2.2))),20))
 else(
 Option.bind (α:=Bool) (
 bif decide (ticks<0) then(
 some true)
 else(
 some (decide (400<ticks)))) fun s=>
 bif s then(
 some ((v.1,(v.2.1,(v.2.2.1,v.2.2.2))),1))
 else(
 (iter (fun x=>qdm ticks x.1 x.2.1 x.2.2.1 x.2.2.2.1 x.2.2.2.2) (0,v.1,v.2.1,v.2.2.1,v.2.2.2)).bind fun s2=>
 some ((s2.1,(s2.2.1,(s2.2.2.1,s2.2.2.2))),0)))
def qpu:Fun:=
 ⟨100,2,2,
 ⟨r82_,[],[]⟩,
 ⟨r82_,[],[]⟩,
 fun x=>qm2 x.1 x.2⟩
theorem quz:FO qpu:=fi [] [qdE,qpt] 29 [] ((nn (nn (mm (mm (.mk [.join [⟨.n,⟨[(1,kk),(2,pt 48 0),(4,pt 80 0),(16,bb)],[(48,126,kp 4),(80,126,kp 4)],[]⟩⟩]] none .nil .nil) .nil) (mm (nn (mm (.mk [] (some (⟨[(1,kk),(2,pt 48 0),(4,pt 80 0),(6,ii)],v92_,[]⟩,[⟨.x 0,⟨r112_,v92_,[]⟩⟩])) .nil .nil) .nil)) .nil))))) func100 ⟨⟨qeK,quy,trivial⟩,trivial⟩
def qci(s:yB6)(i:Int)(x:yB4)(x2:List Int)(x3:List Int)(x4:List Bool):Option (yB10⊕(yB4×List Int×List Int×List Bool)):=
 bif decide (i<(x.length:Int)) then(
 gd (inB i x.length)<|
 (qm2 (x.getD i.toNat (0,0,false,false)) s.2.2.1).bind fun r7=>
 gd (inB i x.length)<|
 some (.inl (wi64 (i+1),x.set i.toNat r7.1,x2,x3,x4)))
 else(
 some (.inr (x,x2,x3,x4)))
def qiF(n:yB0)(d:yB5)(s:yB6):Option (yB5×Int):=
 (qiE (n.1,n.2.1,n.2.2.1,n.2.2.2.1,n.2.2.2.2.1,n.2.2.2.2.2) (d.1,d.2.1,d.2.2.1,d.2.2.2)).bind fun r=>
 bif !decide (r=0) then(
 some ((d.1,(d.2.1,(d.2.2.1,d.2.2.2))),r))
 else(
 (qja (s.1,s.2.1,s.2.2.1,s.2.2.2.1,s.2.2.2.2.1,s.2.2.2.2.2.1,s.2.2.2.2.2.2)).bind fun r2=>
 bif !r2 then(
 some ((d.1,(d.2.1,(d.2.2.1,d.2.2.2))),22))
 else(
 Option.bind (α:=Bool) (
 bif decide (s.1=1) then(
 some (decide (s.1=1)))
 else(
 some (decide (s.1=2)))) fun s2=>
 bif s2 then(
 (qmY (d.1,d.2.1,d.2.2.1,d.2.2.2) (s.1,s.2.1,s.2.2.1,s.2.2.2.1,s.2.2.2.2.1,s.2.2.2.2.2.1,s.2.2.2.2.2.2)).bind fun r3=>
 some ((r3.1.1,(r3.1.2.1,(r3.1.2.2.1,r3.1.2.2.2))),r3.2))
 else(
 Option.bind (α:=Bool) (
 bif decide (s.1=3) then(
 some (decide (s.1=3)))
 else(
 some (decide (s.1=4)))) fun s3=>
 bif s3 then(
 (qmZ (n.1,n.2.1,n.2.2.1,n.2.2.2.1,n.2.2.2.2.1,n.2.2.2.2.2) (d.1,d.2.1,d.2.2.1,d.2.2.2) (s.1,s.2.1,s.2.2.1,s.2.2.2.1,s.2.2.2.2.1,s.2.2.2.2.2.1,s.2.2.2.2.2.2)).bind fun r4=>
 some ((r4.1.1,(r4.1.2.1,(r4.1.2.2.1,r4.1.2.2.2))),r4.2))
 else(
 bif decide (s.1=5) then(
 (qm0 (n.1,n.2.1,n.2.2.1,n.2.2.2.1,n.2.2.2.2.1,n.2.2.2.2.2) (d.1,d.2.1,d.2.2.1,d.2.2.2) (s.1,s.2.1,s.2.2.1,s.2.2.2.1,s.2.2.2.2.1,s.2.2.2.2.2.1,s.2.2.2.2.2.2)).bind fun r5=>
 some ((r5.1.1,(r5.1.2.1,(r5.1.2.2.1,r5.1.2.2.2))),r5.2))
 else(
 Option.bind (α:=Bool) (
 bif decide (s.2.2.1<1) then(
 some true)
 else(
 some (decide (100<s.2.2.1)))) fun s4=>
 bif s4 then(
 some ((d.1,(d.2.1,(d.2.2.1,d.2.2.2))),1))
 else(
 (qeh (d.1,d.2.1,d.2.2.1,d.2.2.2)).bind fun r6=>
 (iter (fun x5=>qci s x5.1 x5.2.1 x5.2.2.1 x5.2.2.2.1 x5.2.2.2.2) (0,r6.1,r6.2.1,r6.2.2.1,r6.2.2.2)).bind fun s5=>
 some ((s5.1,(s5.2.1,(s5.2.2.1,s5.2.2.2))),0)))))))
def qnS:Fun:=
 ⟨41,3,2,
 ⟨r56_,[],[]⟩,
 ⟨r48_,[],[]⟩,
 fun x=>qiF x.1 x.2.1 x.2.2⟩
theorem qs8:FO qnS:=fi [] [qjo,qms,qpq,qpr,qps,qei,qpu] 83 [] ((nn (nn (nn (mm (nn (mm (mm (nn (.mk [.join [⟨.n,⟨[(3,pt 64 0),(4,pt 80 0),(5,pt 96 0),(6,pt 112 0),(23,kk),(24,bb)],v34_,[]⟩⟩]] none .nil .nil)) (nn (mm (nn (.mk [.join [⟨.n,⟨[(3,pt 64 0),(4,pt 80 0),(5,pt 96 0),(6,pt 112 0),(23,kk),(32,bb)],v34_,[]⟩⟩]] none .nil .nil)) .nil))) .nil)) (mm (mm (.mk [.join [⟨.n,⟨[(4,pt 80 0),(5,pt 96 0),(6,pt 112 0),(56,bb)],[(80,44,kp 4),(96,57,kp 7),(112,44,kp 4)],[]⟩⟩]] none .nil .nil) .nil) (nn (mm (nn (mm (.mk [] (some (⟨[(5,pt 96 0),(6,pt 112 0),(9,pt 160 0),(10,ii)],[(96,57,kp 7),(112,44,kp 4),(160,44,[.own 960,.own 961,.own 962,.own 963])],a95_⟩,[⟨.x 1,⟨[(6,pt 112 0),(9,pt 160 0)],[(112,44,kp 4),(160,44,[.own 960,.own 961,.own 962,.own 963])],a95_⟩⟩])) .nil .nil) .nil)) .nil)))))))) func41 ⟨⟨qnO,qso,quv,quw,qux,qfY,quz,trivial⟩,trivial⟩
def qgl(a:yB2):Option (Bool):=
 bif decide (0<=a.2.1) then(
 bif decide (a.2.1<=1099511627776) then(
 bif decide (0<=a.2.2.1) then(
 bif decide (a.2.2.1<=1099511627776) then(
 bif decide (0<=a.2.2.2.1) then(
 bif decide (a.2.2.2.1<=1099511627776) then(
 bif decide ((-1099511627776)<=a.2.2.2.2) then(
 some (decide (a.2.2.2.2<=1099511627776)))
 else(
 some false))
 else(
 some false))
 else(
 some false))
 else(
 some false))
 else(
 some false))
 else(
 some false))
 else(
 some false)
def qjp:Fun:=
 ⟨103,1,1,
 ⟨[(0,dd tT4)],[],[]⟩,
 ⟨[(0,bb)],[],[]⟩,
 fun x=>qgl x⟩
theorem qnT:FO qjp:=fi [] [] 41 [] .nil func103 ⟨trivial,trivial⟩
def qeL(l:List yB2)(i:Int):Option (Int⊕(Unit⊕Bool)):=
 bif decide (i<(l.length:Int)) then(
 Option.bind (α:=Bool) (
 gd (inB i l.length)<|
 (qcn ((l.getD i.toNat ([],0,0,0,0)).1)).bind fun r=>
 bif !r then(
 some true)
 else(
 gd (inB i l.length)<|
 (qgl (l.getD i.toNat ([],0,0,0,0))).bind fun r2=>
 bif !r2 then(
 some true)
 else(
 bif decide (0<i) then(
 gd (inB (wi64 (i-1)) l.length)<|
 gd (inB i l.length)<|
 some (!Op.bytesLess ((l.getD (wi64 (i-1)).toNat ([],(0,(0,(0,0))))).1) ((l.getD i.toNat ([],(0,(0,(0,0))))).1)))
 else(
 some false)))) fun s=>
 bif s then(
 some (.inr (.inr false)))
 else(
 some (.inl (wi64 (i+1)))))
 else(
 some (.inr (.inl ())))
def qkI(l:List yB2):Option (Bool):=
 bif decide (64<(l.length:Int)) then(
 some false)
 else(
 (iter (fun x=>qeL l x) 0).bind fun s2=>
 s2.elim (fun s3=>
 some true)
 (fun s4=>
 some s4))
def qnU:Fun:=
 ⟨101,1,1,
 ⟨[(0,dd (.sl tT4))],[],[]⟩,
 ⟨[(0,bb)],[],[]⟩,
 fun x=>qkI x⟩
theorem qs9:FO qnU:=fi [] [qfV,qjp] 46 [] ((nn (nn (mm (nn (mm (.mk [] (some (⟨[(0,kk),(3,ii)],[],[]⟩,[⟨.x 0,⟨[],[],[]⟩⟩,⟨.r,⟨[(2,bb)],[],[]⟩⟩])) (nn (mm (mm (mm (.mk [.join [⟨.n,⟨[(0,kk),(3,kk),(45,bb)],[],[]⟩⟩]] none .nil .nil) .nil) .nil) .nil)) .nil) .nil)) .nil)))) func101 ⟨⟨qhT,qnT,trivial⟩,trivial⟩
def qiG(e:List UInt8×Int×Int):Option (Bool):=
 (qcn e.1).bind fun r=>
 bif !r then(
 some false)
 else(
 Option.bind (α:=Bool) (
 bif decide (e.2.1=1) then(
 some (decide (e.2.1=1)))
 else(
 Option.bind (α:=Bool) (
 bif decide (e.2.1=2) then(
 some (decide (e.2.1=2)))
 else(
 some (decide (e.2.1=3)))) fun s=>
 some s)) fun s2=>
 bif s2 then(
 bif decide (0<=e.2.2) then(
 some (decide (e.2.2<=1099511627776)))
 else(
 some false))
 else(
 bif decide (e.2.1=4) then(
 bif decide ((-1099511627776)<=e.2.2) then(
 some (decide (e.2.2<=1099511627776)))
 else(
 some false))
 else(
 some false)))
def qnV:Fun:=
 ⟨102,1,1,
 ⟨[(0,dd tT7)],[],[]⟩,
 ⟨[(0,bb)],[],[]⟩,
 fun x=>qiG x⟩
theorem qta:FO qnV:=fi [] [qfV] 31 [] ((nn (nn (mm (nn (mm (mm (nn (.mk [.join [⟨.n,⟨[(1,pt 32 0),(8,kk),(9,bb)],v88_,[]⟩⟩]] none .nil (nn (.mk [.join [⟨.n,⟨[(1,pt 32 0),(8,kk),(9,bb)],v88_,[]⟩⟩]] none .nil .nil)))) .nil) .nil)) .nil)))) func102 ⟨⟨qhT,trivial⟩,trivial⟩
def qfZ(l:List yB2)(e:List UInt8×Int×Int)(k:Int):Option (Int⊕Int):=
 Option.bind (α:=Bool) (
 bif decide (k<(l.length:Int)) then(
 gd (inB k l.length)<|
 some (Op.bytesLess ((l.getD k.toNat ([],(0,(0,(0,0))))).1) e.1))
 else(
 some false)) fun s2=>
 bif s2 then(
 some (.inl (wi64 (k+1))))
 else(
 some (.inr k))
def qgm(l:List yB2)(e:List UInt8×Int×Int):Option ((List yB2)×Int):=
 Option.bind (α:=Bool) (
 (qkI l).bind fun r=>
 bif !r then(
 some true)
 else(
 (qiG (e.1,e.2.1,e.2.2)).bind fun r2=>
 some (!r2))) fun s=>
 bif s then(
 some (l,27))
 else(
 (iter (fun x=>qfZ l e x) 0).bind fun s3=>
 gd (fits (0+l.length) 48)<|
 Option.bind (α:=Bool×List yB2) (
 bif decide (s3=(l.length:Int)) then(
 some (true,([]++l)))
 else(
 gd (inB s3 l.length)<|
 some ((!decide ((l.getD s3.toNat ([],(0,(0,(0,0))))).1=e.1)),([]++l)))) fun s4=>
 Option.bind (α:=List yB2) (
 bif s4.1 then(
 gd (cutG none (some (.i64,s3)) l.length)<|
 gd (fits (0+(l.take s3.toNat).length) 48)<|
 gd (fits (([]++(l.take s3.toNat)).length+1) 48)<|
 gd (cutG (some (.i64,s3)) none l.length)<|
 gd (fits ((([]++(l.take s3.toNat))++[(e.1,0,0,0,0)]).length+(l.drop s3.toNat).length) 48)<|
 some ((([]++(l.take s3.toNat))++[(e.1,(0,(0,(0,0))))])++(l.drop s3.toNat)))
 else(
 some s4.2)) fun s5=>
 Option.bind (α:=List yB2) (
 bif decide (e.2.1=1) then(
 gd (inB s3 s5.length)<|
 gd (inB s3 s5.length)<|
 some (s5.set s3.toNat ((s5.getD s3.toNat ([],(0,(0,(0,0))))).1,(wi64 ((((s5.getD s3.toNat ([],(0,(0,(0,0))))).2).1)+e.2.2),((s5.getD s3.toNat ([],(0,(0,(0,0))))).2).2))))
 else(
 Option.bind (α:=List yB2) (
 bif decide (e.2.1=2) then(
 gd (inB s3 s5.length)<|
 gd (inB s3 s5.length)<|
 some (s5.set s3.toNat ((s5.getD s3.toNat ([],(0,(0,(0,0))))).1,(((s5.getD s3.toNat ([],(0,(0,(0,0))))).2).1,(wi64 (((((s5.getD s3.toNat ([],(0,(0,(0,0))))).2).2).1)+e.2.2),(((s5.getD s3.toNat ([],(0,(0,(0,0))))).2).2).2)))))
 else(
 Option.bind (α:=List yB2) (
 bif decide (e.2.1=3) then(
 gd (inB s3 s5.length)<|
 gd (inB s3 s5.length)<|
 some (s5.set s3.toNat ((s5.getD s3.toNat ([],(0,(0,(0,0))))).1,(((s5.getD s3.toNat ([],(0,(0,(0,0))))).2).1,((((s5.getD s3.toNat ([],(0,(0,(0,0))))).2).2).1,(wi64 ((((((s5.getD s3.toNat ([],(0,(0,(0,0))))).2).2).2).1)+e.2.2),((((s5.getD s3.toNat ([],(0,(0,(0,0))))).2).2).2).2))))))
 else(
 gd (inB s3 s5.length)<|
 gd (inB s3 s5.length)<|
 some (s5.set s3.toNat ((s5.getD s3.toNat ([],(0,(0,(0,0))))).1,(((s5.getD s3.toNat ([],(0,(0,(0,0))))).2).1,((((s5.getD s3.toNat ([],(0,(0,(0,0))))).2).2).1,(((((s5.getD s3.toNat ([],(0,(0,(0,0))))).2).2).2).1,wi64 ((((((s5.getD s3.toNat ([],(0,(0,(0,0))))).2).2).2).2)+e.2.2)))))))) fun s6=>
 some s6)) fun s7=>
 some s7)) fun s8=>
 Option.bind (α:=Bool×List yB2) (
 bif decide (64<(s8.length:Int)) then(
 some (true,s8))
 else(
 gd (inB s3 s8.length)<|
 (qgl (s8.getD s3.toNat ([],0,0,0,0))).bind fun r3=>
 some ((!r3),s8))) fun s9=>
 bif s9.1 then(
 some (l,4))
 else(
 some (s9.2,0)))
def qpv:Fun:=
 ⟨42,2,2,
 ⟨[(0,dd (.sl tT4)),(1,dd tT7)],[],[]⟩,
 ⟨[(0,dd (.sl tT4)),(1,ii)],[],[]⟩,
 fun x=>qgm x.1 x.2⟩
theorem quA:FO qpv:=fi [33,50] [qnU,qnV,qjp] 133 [] ((nn (mm (mm (.mk [.join [⟨.n,⟨[(0,kk),(3,pt 64 0),(15,bb)],v55_,[]⟩⟩]] none .nil .nil) .nil) (nn (mm (mm (.mk [] (some (⟨[(0,kk),(3,pt 64 0),(6,ii)],v55_,[]⟩,[⟨.x 0,⟨[(0,kk),(3,pt 64 0),(6,ii)],v55_,[]⟩⟩])) (mm (mm (.mk [.join [⟨.n,⟨[(0,kk),(3,pt 64 0),(6,kk),(30,bb)],v55_,[]⟩⟩]] none .nil .nil) .nil) .nil) .nil) .nil) (nn (mm (mm (.mk [.join [⟨.n,⟨[(0,kk),(3,pt 64 0),(6,kk),(7,ow 576),(49,bb)],v55_,[(576,.arr 140 tT4)]⟩⟩]] none .nil .nil) (.mk [.join [⟨.n,⟨[(0,kk),(3,pt 64 0),(6,kk),(7,ow 139)],v55_,a140_⟩⟩]] none .nil .nil)) (mm (nn (mm (nn (.mk [.join [⟨.n,⟨r141_,[],a140_⟩⟩]] none .nil (nn (.mk [.join [⟨.n,⟨r141_,[],a140_⟩⟩]] none .nil (nn (.mk [.join [⟨.n,⟨r141_,[],a140_⟩⟩]] none .nil .nil)))))) .nil)) (mm (mm (.mk [.join [⟨.n,⟨[(0,kk),(7,ow 139),(130,bb)],[],a140_⟩⟩]] none .nil .nil) .nil) .nil))))))))) func42 ⟨⟨qs9,qta,qnT,trivial⟩,trivial⟩
def qgn(n:yB0)(c:yB11)(r:yB1):Option (yB11×Int):=
 bif decide (c.2.2.2=1000) then(
 some (((c.1.1,(c.1.2.1,(c.1.2.2.1,c.1.2.2.2))),(c.2.1,(c.2.2.1,c.2.2.2))),4))
 else(
 (qmW ((c.1.1,c.1.2.1,c.1.2.2.1,c.1.2.2.2),c.2.1,c.2.2.1,c.2.2.2)).bind fun r2=>
 bif decide (r.1=1) then(
 Option.bind (α:=yB13) (
 bif decide ((r.2.1.length:Int)<5) then(
 some (true,r2.2.1,r2.2.2.1,r2.2.2.2.1,r2.2.2.2.2.1,r2.2.2.2.2.2.1,r2.2.2.2.2.2.2))
 else(
 (qfq (r.2.2.1.1,r.2.2.1.2.1,r.2.2.1.2.2.1,r.2.2.1.2.2.2.1,r.2.2.1.2.2.2.2.1,r.2.2.1.2.2.2.2.2.1,r.2.2.1.2.2.2.2.2.2)).bind fun r3=>
 bif !r3 then(
 some (true,r2.2.1,r2.2.2.1,r2.2.2.2.1,r2.2.2.2.2.1,r2.2.2.2.2.2.1,r2.2.2.2.2.2.2))
 else(
 some ((!(decide (r.2.2.2.1=[])&&(decide (r.2.2.2.2.1=0)&&decide (r.2.2.2.2.2=0)))),r2.2.1,r2.2.2.1,r2.2.2.2.1,r2.2.2.2.2.1,r2.2.2.2.2.2.1,r2.2.2.2.2.2.2)))) fun s=>
 bif s.1 then(
 some (((c.1.1,(c.1.2.1,(c.1.2.2.1,c.1.2.2.2))),(c.2.1,(c.2.2.1,c.2.2.2))),28))
 else(
 gd (inB 0 r.2.1.length)<|
 gd (inB 1 r.2.1.length)<|
 gd (inB 2 r.2.1.length)<|
 gd (inB 3 r.2.1.length)<|
 gd (inB 4 r.2.1.length)<|
 gd (cutG (some (.i64,5)) none r.2.1.length)<|
 gd (fits (0+(r.2.1.drop 5).length) 8)<|
 (qiB (r.2.1.getD 0 0,r.2.1.getD 1 0,r.2.1.getD 2 0,r.2.1.getD 3 0,r.2.1.getD 4 0,[]++(r.2.1.drop 5))).bind fun r4=>
 bif !r4 then(
 some (((c.1.1,(c.1.2.1,(c.1.2.2.1,c.1.2.2.2))),(c.2.1,(c.2.2.1,c.2.2.2))),28))
 else(
 (qha (r.2.1.getD 0 0,r.2.1.getD 1 0,r.2.1.getD 2 0,r.2.1.getD 3 0,r.2.1.getD 4 0,[]++(r.2.1.drop 5)) s.2.2.2.2.2.1).bind fun r5=>
 bif !r5.1 then(
 some (((c.1.1,(c.1.2.1,(c.1.2.2.1,c.1.2.2.2))),(c.2.1,(c.2.2.1,c.2.2.2))),6))
 else(
 some (((s.2.1,(s.2.2.1,(s.2.2.2.1,s.2.2.2.2.1))),(r5.2,(s.2.2.2.2.2.2,wi64 (r2.1+1)))),0)))))
 else(
 bif decide (r.1=2) then(
 Option.bind (α:=yB13) (
 bif decide (0<(r.2.1.length:Int)) then(
 some (true,r2.2.1,r2.2.2.1,r2.2.2.2.1,r2.2.2.2.2.1,r2.2.2.2.2.2.1,r2.2.2.2.2.2.2))
 else(
 some ((!(decide (r.2.2.2.1=[])&&(decide (r.2.2.2.2.1=0)&&decide (r.2.2.2.2.2=0)))),r2.2.1,r2.2.2.1,r2.2.2.2.1,r2.2.2.2.2.1,r2.2.2.2.2.2.1,r2.2.2.2.2.2.2))) fun s2=>
 bif s2.1 then(
 some (((c.1.1,(c.1.2.1,(c.1.2.2.1,c.1.2.2.2))),(c.2.1,(c.2.2.1,c.2.2.2))),28))
 else(
 (qiF (n.1,n.2.1,n.2.2.1,n.2.2.2.1,n.2.2.2.2.1,n.2.2.2.2.2) (s2.2.1,s2.2.2.1,s2.2.2.2.1,s2.2.2.2.2.1) (r.2.2.1.1,r.2.2.1.2.1,r.2.2.1.2.2.1,r.2.2.1.2.2.2.1,r.2.2.1.2.2.2.2.1,r.2.2.1.2.2.2.2.2.1,r.2.2.1.2.2.2.2.2.2)).bind fun r6=>
 bif !decide (r6.2=0) then(
 some (((c.1.1,(c.1.2.1,(c.1.2.2.1,c.1.2.2.2))),(c.2.1,(c.2.2.1,c.2.2.2))),r6.2))
 else(
 some (((r6.1.1,(r6.1.2.1,(r6.1.2.2.1,r6.1.2.2.2))),(s2.2.2.2.2.2.1,(s2.2.2.2.2.2.2,wi64 (r2.1+1)))),0))))
 else(
 bif decide (r.1=3) then(
 Option.bind (α:=yB13) (
 bif decide (0<(r.2.1.length:Int)) then(
 some (true,r2.2.1,r2.2.2.1,r2.2.2.2.1,r2.2.2.2.2.1,r2.2.2.2.2.2.1,r2.2.2.2.2.2.2))
 else(
 (qfq (r.2.2.1.1,r.2.2.1.2.1,r.2.2.1.2.2.1,r.2.2.1.2.2.2.1,r.2.2.1.2.2.2.2.1,r.2.2.1.2.2.2.2.2.1,r.2.2.1.2.2.2.2.2.2)).bind fun r7=>
 some ((!r7),r2.2.1,r2.2.2.1,r2.2.2.2.1,r2.2.2.2.2.1,r2.2.2.2.2.2.1,r2.2.2.2.2.2.2))) fun s3=>
 bif s3.1 then(
 some (((c.1.1,(c.1.2.1,(c.1.2.2.1,c.1.2.2.2))),(c.2.1,(c.2.2.1,c.2.2.2))),28))
 else(
 (qgm s3.2.2.2.2.2.2 (r.2.2.2.1,r.2.2.2.2.1,r.2.2.2.2.2)).bind fun r8=>
 bif !decide (r8.2=0) then(
 some (((c.1.1,(c.1.2.1,(c.1.2.2.1,c.1.2.2.2))),(c.2.1,(c.2.2.1,c.2.2.2))),r8.2))
 else(
 some (((s3.2.1,(s3.2.2.1,(s3.2.2.2.1,s3.2.2.2.2.1))),(s3.2.2.2.2.2.1,(r8.1,wi64 (r2.1+1)))),0))))
 else(
 some (((c.1.1,(c.1.2.1,(c.1.2.2.1,c.1.2.2.2))),(c.2.1,(c.2.2.1,c.2.2.2))),28)))))
def qjq:Fun:=
 ⟨15,3,2,
 ⟨r36_,[],[]⟩,
 ⟨r26_,[],[]⟩,
 fun x=>qgn x.1 x.2.1 x.2.2⟩
theorem qnW:FO qjq:=fi [65] [qpn,qml,qnM,qmn,qnS,qpv] 145 [] ((nn (nn (nn (nn (mm (nn (mm (nn (mm (mm (mm (.mk [.join [⟨.n,⟨[(4,pt 80 0),(5,pt 96 0),(6,pt 112 0),(8,pt 144 0),(46,bb)],v38_,a24_⟩⟩]] none .nil .nil) .nil) (nn (nn (nn (mm (.mk [.fz [10]] none .nil .nil) .nil))))) (nn (mm (mm (mm (.mk [.join [⟨.n,⟨[(3,pt 64 0),(4,pt 80 0),(5,pt 96 0),(6,pt 112 0),(8,pt 144 0),(98,bb)],[(64,32,kp 6),(80,48,kp 7),(96,61,kp 12),(112,48,kp 7),(144,48,[.own 368,.own 369,.own 370,.own 371,.own 372,.own 373,.keep])],a24_⟩⟩]] none .nil .nil) .nil) (mm (.mk [.fz [8]] none .nil .nil) .nil)) (nn (mm (mm (mm (.mk [.join [⟨.n,⟨[(4,pt 80 0),(5,pt 96 0),(6,pt 112 0),(8,pt 144 0),(127,bb)],v38_,a24_⟩⟩]] none .nil .nil) .nil) (mm (.mk [.fz [8]] none .nil .nil) .nil)) .nil)))))) .nil)) .nil)))))) func15 ⟨⟨qut,qsj,qs4,qsm,qs8,quA,trivial⟩,trivial⟩
def qht(n:yB0)(i:Int)(s3:List Int)(s4:Int)(c:yB4)(c2:List Int)(c3:List Int)(c4:List Bool)(c5:List yB3)(c6:List yB2)(c7:Int)(l:List yB1):Option ((Int×List Int×Int×yB4×List Int×List Int×List Bool×(List yB3)×(List yB2)×Int×List yB1)⊕(yB4×List Int×List Int×List Bool×(List yB3)×(List yB2)×Int×List Int×Int×List yB1)):=
 bif decide (0<i) then(
 (qfX (n.1,n.2.1,n.2.2.1,n.2.2.2.1,n.2.2.2.2.1,n.2.2.2.2.2) ((c,c2,c3,c4),c5,c6,c7) s3 s4).bind fun r3=>
 (qgn (n.1,n.2.1,n.2.2.1,n.2.2.2.1,n.2.2.2.2.1,n.2.2.2.2.2) ((c,c2,c3,c4),c5,c6,c7) (r3.1.1,r3.1.2.1,(r3.1.2.2.1.1,r3.1.2.2.1.2.1,r3.1.2.2.1.2.2.1,r3.1.2.2.1.2.2.2.1,r3.1.2.2.1.2.2.2.2.1,r3.1.2.2.1.2.2.2.2.2.1,r3.1.2.2.1.2.2.2.2.2.2),r3.1.2.2.2.1,r3.1.2.2.2.2.1,r3.1.2.2.2.2.2)).bind fun r4=>
 Option.bind (α:=yB4×List Int×List Int×List Bool×(List yB3)×(List yB2)×Int×List yB1) (
 bif decide (r4.2=0) then(
 gd (fits (l.length+1) 136)<|
 some (r4.1.1.1,r4.1.1.2.1,r4.1.1.2.2.1,r4.1.1.2.2.2,r4.1.2.1,r4.1.2.2.1,r4.1.2.2.2,l++[(r3.1.1,(r3.1.2.1,((r3.1.2.2.1.1,(r3.1.2.2.1.2.1,(r3.1.2.2.1.2.2.1,(r3.1.2.2.1.2.2.2.1,(r3.1.2.2.1.2.2.2.2.1,(r3.1.2.2.1.2.2.2.2.2.1,r3.1.2.2.1.2.2.2.2.2.2)))))),(r3.1.2.2.2.1,(r3.1.2.2.2.2.1,r3.1.2.2.2.2.2)))))]))
 else(
 some (c,c2,c3,c4,c5,c6,c7,l))) fun s5=>
 some (.inl (wi64 (i-1),r3.2.1,r3.2.2,s5.1,s5.2.1,s5.2.2.1,s5.2.2.2.1,s5.2.2.2.2.1,s5.2.2.2.2.2.1,s5.2.2.2.2.2.2.1,s5.2.2.2.2.2.2.2)))
 else(
 some (.inr (c,c2,c3,c4,c5,c6,c7,s3,s4,l)))
def qhZ(n:yB0)(travel:Int)(most:Int)(s:List Int)(s2:Int):Option (yB11×List Int×Int×List yB1):=
 (ql9 (n.1,n.2.1,n.2.2.1,n.2.2.2.1,n.2.2.2.2.1,n.2.2.2.2.2) travel).bind fun r=>
 (qab (wi64 (most+1)) s s2).bind fun r2=>
 (iter (fun x=>qht n x.1 x.2.1 x.2.2.1 x.2.2.2.1 x.2.2.2.2.1 x.2.2.2.2.2.1 x.2.2.2.2.2.2.1 x.2.2.2.2.2.2.2.1 x.2.2.2.2.2.2.2.2.1 x.2.2.2.2.2.2.2.2.2.1 x.2.2.2.2.2.2.2.2.2.2) (r2.1,r2.2.1,r2.2.2,r.1.1.1,r.1.1.2.1,r.1.1.2.2.1,r.1.1.2.2.2,r.1.2.1,r.1.2.2.1,r.1.2.2.2,[])).bind fun s6=>
 some (((s6.1,s6.2.1,s6.2.2.1,s6.2.2.2.1),s6.2.2.2.2.1,s6.2.2.2.2.2.1,s6.2.2.2.2.2.2.1),s6.2.2.2.2.2.2.2.1,s6.2.2.2.2.2.2.2.2.1,s6.2.2.2.2.2.2.2.2.2)
def qlh:Fun:=
 ⟨23,4,2,
 ⟨[(0,pt 0 0),(1,dd tT0),(2,ii),(3,ii)],v3_,[]⟩,
 ⟨[(0,dd (.pair (.pair (.sl tT1) tT6) (.pair (.sl tT3) (.pair (.sl tT4) I6)))),(1,ow 1)],v3_,[(1,.arr 61 (.pair I6 (.pair (.sl I6) (.pair tT2 tT7))))]⟩,
 fun x=>qhZ x.1 x.2.1 x.2.2.1 x.2.2.2.1 x.2.2.2.2⟩
theorem qqW:FO qlh:=fi [] [qma,qa8,qhs,qjq] 51 [] ((nn (nn (nn (mm (nn (mm (.mk [] (some (⟨[(0,pt 0 0),(5,pt 96 0),(8,pt 144 0),(10,pt 176 0),(12,ow 219),(13,ii)],[(0,87,[.data (.sl I6),.data I6]),(96,32,kp 6),(144,48,kp 7),(176,48,[.data (.sl tT1),.data (.sl I6),.data (.sl I6),.data (.sl (.bool)),.data (.sl tT3),.data (.sl tT4),.data I6])],a79_⟩,[⟨.x 0,⟨[(8,pt 144 0),(10,pt 176 0),(12,ow 219)],[(144,48,kp 7),(176,48,[.data (.sl tT1),.data (.sl I6),.data (.sl I6),.data (.sl (.bool)),.data (.sl tT3),.data (.sl tT4),.data I6]),(0,87,[.data (.sl I6),.data I6])],a79_⟩⟩])) (nn (mm (mm (nn (nn (nn (.mk [.join [⟨.n,⟨[(0,pt 0 0),(5,pt 96 0),(8,pt 144 0),(10,pt 176 0),(12,ow 219),(13,kk)],[(0,87,[.keep,.keep]),(96,32,kp 6),(144,48,kp 7),(176,48,[.data (.sl tT1),.data (.sl I6),.data (.sl I6),.data (.sl (.bool)),.data (.sl tT3),.data (.sl tT4),.data I6])],a79_⟩⟩]] none .nil .nil)))) .nil) .nil)) .nil) .nil)) .nil))))) func23 ⟨⟨qqA,qbk,qle,qnW,trivial⟩,trivial⟩
def qgo(n:Int):Option (Bool):=
 bif decide ((-9007199254740992)<=n) then(
 some (decide (n<=9007199254740992)))
 else(
 some false)
def qeM:Fun:=
 ⟨134,1,1,
 ⟨[(0,ii)],[],[]⟩,
 ⟨[(0,bb)],[],[]⟩,
 fun x=>qgo x⟩
theorem qgI:FO qeM:=fi [] [] 9 [] .nil func134 ⟨trivial,trivial⟩
def qeN(rec:Int->Option (List UInt8))(n:Int):Option (List UInt8):=
 bif decide ((-10)<n) then(
 some (qga [wu8 (wi64 (48-n))]))
 else(
 (rec (wi64 (Int.tdiv n 10))).bind fun r=>
 gd (Nat.ble (r.length+(qga [wu8 (wi64 (48-(Int.tmod n 10)))]).length) 9223372036854775807)<|
 some (r++(qga [wu8 (wi64 (48-(Int.tmod n 10)))])))
def qdF:Nat->Int->Option (List UInt8)
 | 0=>fun _=>none
 | n+1=>qeN (qdF n)
def qmt(n:Int):Option (List UInt8):=qdF 18446744073709551616 n
def qgp(n:Nat):Fun:=
 ⟨216,1,1,
 ⟨[(0,ii)],[],[]⟩,
 ⟨[(0,ss)],[],[]⟩,
 fun x=>qdF n x⟩
def qmu:Fun:=qgp 18446744073709551616
def qsp(n:Nat):Cx:=⟨types,[],[qgp n],20,[]⟩
theorem qjV:∀n:Nat,FunOk prog (qgp n)
 | 0=>FunOk.nothing func216 rfl (by kernel_rfl) (fun x=>rfl)
 | n+1=>FunOk.intro (C:=qsp n) (p:=.nil)
  func216 rfl (by kernel_rfl) rfl rfl rfl rfl qke ⟨⟨qjV n,trivial⟩,trivial⟩ mx (fun x=>by kernel_rfl)
theorem qsq:FO qmu:=qjV 18446744073709551616
end
end Go.Proofs.YtmdijohmddokhaaGreatDoor
