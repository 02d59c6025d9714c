/- Numbers as words. No condition. -/
import Derived.Test.YtmdijohmddokhaaGreatDoorPr8
namespace Go.Proofs.YtmdijohmddokhaaGreatDoor
open Go Go.Sq
set_option linter.unusedVariables false
def smI(n:Int):Bool:=decide (-9007199254740992<=n)&&decide (n<=9007199254740992)
theorem smI_t{n:Int}(h:smI n=true) : -9007199254740992<=n/\n<=9007199254740992:=by
 unfold smI at h;simpa using h
theorem qpQ(n:Int):Lib.itoa n=if n<0 then 45::Lib.decDigits n.natAbs else Lib.decDigits n.natAbs:=by
 unfold Lib.itoa;by_cases h:n<0
 ·rw[if_pos h,if_pos h]
 ·rw[if_neg h,if_neg h,show n.toNat=n.natAbs by omega]
theorem qy2(n:Int):wordB (Lib.itoa n)=true:=by
 rw[qpQ];have h:=quX n.natAbs;have ha:∀b∈Lib.decDigits n.natAbs,wch b=true:=fun b hb=>qEj (zm.1 h.all b hb)
 obtain⟨a,r,e,_⟩:=h.head;unfold wordB;rw[z8,zm];by_cases hn:n<0
 ·rw[if_pos hn];refine⟨fun b hb=>?_,rfl⟩
  rcases zw.1 hb with rfl | hb
  ·decide
  ·exact ha b hb
 ·rw[if_neg hn];exact⟨ha,by rw[e]; rfl⟩
theorem qdy{n:Int}(h:smI n=true):(Lib.itoa n).length<=17:=by
 obtain⟨h1,h2⟩:=smI_t h;have:=qsF 15 n.natAbs (by omega)
 rw[qpQ];split
 ·rw[zg]; omega
 ·omega
theorem qCE(n:Int):dgs (Lib.itoa n)=Lib.decDigits n.natAbs/\mns (Lib.itoa n)=decide (n<0):=by
 have h:=quX n.natAbs;rw[qpQ];by_cases hn:n<0
 ·rw[if_pos hn,dec_t hn]; exact⟨rfl,rfl⟩
 ·rw[if_neg hn,dec_f hn];have:=qEg (X:=[]) h;rw[zM] at this;exact this
theorem qBb{n:Int}(h:smI n=true):atoiT (Lib.itoa n)=some (n,false):=by
 obtain⟨h1,h2⟩:=smI_t h;have hl:=qdy h;have hd:=quX n.natAbs;obtain⟨e1,e2⟩:=qCE n;rw[quR _ (by omega),qEf _ (by rw[e1]; exact hd.ne) (by rw[e1]; exact hd.all),e1,e2,hd.val,if_pos (by omega)]
 by_cases hn:n<0
 ·rw[dec_t hn,if_neg (by simp),if_neg (by omega)]
  simp only[if_true];rw[show -(n.natAbs:Int)=n by omega]
 ·rw[dec_f hn,if_neg (by omega),if_neg (by simp)]
  simp only[zQ1,if_false];rw[show(n.natAbs:Int)=n by omega]
end Go.Proofs.YtmdijohmddokhaaGreatDoor
namespace Go.Proofs.YtmdijohmddokhaaGreatDoor
open Go Go.Sq
set_option linter.unusedVariables false
theorem qd6{a b:Bool}{x:Option Bool}(h:x=some b):(bif a then some true else x)=some (a || b):=by subst h; cases a <;> rfl
theorem qkN{a b:Bool}{x:Option Bool}(h:x=some b):(bif a then x else some false)=some (a&&b):=by subst h; cases a <;> rfl
theorem qhu{A:Type}{a b:Bool}{w:A}{x:Option (Bool×A)}(h:x=some (b,w)):(bif a then some (true,w) else x)=some (a || b,w):=by subst h; cases a <;> rfl
theorem quY{A:Type}{a b:Bool}{w:A}{x:Option (Bool×A)}(h:x=some (b,w)):(bif a then x else some (false,w))=some (a&&b,w):=by subst h; cases a <;> rfl
theorem dlt_n(a b:Int):decide (a<b)=!decide (b<=a):=by
 rw[<-zy2]; exact zv1.2 (by omega)
theorem dlen0{A:Type}(l:List A):decide ((l.length:Int)=0)=decide (l.length=0):=zv1.2 (by omega)
def ixB(i:Int)(n:Nat):Bool:=decide (0<=i)&&decide (i<(n:Int))
theorem ixB_t{i:Int}{n:Nat}(h:ixB i n=true):0<=i/\i<n:=by unfold ixB at h; simpa using h
theorem qsH{i:Int}{n:Nat}(h:ixB i n=true):inB i n=true:=qae.2 (ixB_t h)
theorem qEl{n:Int}(h:i64P n):itoaT n=some (Lib.itoa n):=by
 unfold itoaT;rw[dec_t h.1,dec_t h.2]; rfl
/-! ### The words -/
abbrev qlm:Str:=[101,110,116,114,121]
abbrev cTele:Str:=[116,101,108,101,103,114,97,109]
abbrev cFlow:Str:=[102,108,111,119]
abbrev cWait:Str:=[119,97,105,116]
abbrev cStop:Str:=[115,116,111,112]
abbrev qsI:Str:=[115,116,97,114,116]
abbrev qv8:Str:=[99,108,111,115,101]
abbrev cOpen:Str:=[111,112,101,110]
abbrev kindL:List Str:=[[],[114,101,99,101,105,118,101,100],[100,101,108,105,118,101,114,101,100],[115,108,111,112],[115,104,97,114,101]]
def segN(n:Net)(i:Int):Str:=(n.2.1.getD i.toNat sg0).1
def portN(n:Net)(i:Int):Str:=(n.2.2.1.getD i.toNat po0).1
def staN(n:Net)(i:Int):Str:=(n.2.2.2.1.getD i.toNat sta0).1
def hopV(n:Net)(h:Hop):Str:=bif h.2 then 45::segN n h.1 else segN n h.1
def hopsV(n:Net):List Hop->List Str
 | []=>[]
 | h::r=>bif ixB h.1 n.2.1.length then hopV n h::hopsV n r else []
def hopsB(n:Net)(l:List Hop):Bool:=l.all fun h=>ixB h.1 n.2.1.length
def portV(n:Net)(i:Int):List Str:=bif ixB i n.2.2.1.length then [portN n i] else []
def staV(n:Net)(i:Int):List Str:=bif ixB i n.2.2.2.1.length then [staN n i] else []
def flowV(n:Net)(s:Stp):List Str:=cFlow::Lib.itoa s.2.2.1::(portV n s.2.2.2.1++(portV n s.2.2.2.2.1++hopsV n s.2.2.2.2.2.1))
def flowB(n:Net)(s:Stp):Bool:=smI s.2.2.1&&(decide (s.2.1=0)&&(decide (s.2.2.2.2.2.1.length<=32)&&(ixB s.2.2.2.1 n.2.2.1.length&&(ixB s.2.2.2.2.1 n.2.2.1.length&&hopsB n s.2.2.2.2.2.1))))
def bareB(s:Stp):Bool:=decide (s.2.2.2.1=0)&&(decide (s.2.2.2.2.1=0)&&decide (s.2.2.2.2.2.1.length=0))
def stepV(n:Net)(s:Stp):List Str:=
 if s.1=1 then [cOpen,Lib.itoa s.2.1] else if s.1=2 then [qv8,Lib.itoa s.2.1] else
 if s.1=3 then qsI::staV n s.2.1 else if s.1=4 then cStop::staV n s.2.1 else
 if s.1=5 then flowV n s else if s.1=6 then [cWait,Lib.itoa s.2.2.1] else []
def qhf(n:Net)(s:Stp):Bool:=
 if s.1=1\/s.1=2 then ixB s.2.1 (n.2.1.length+n.2.2.1.length)&&(smI s.2.1&&decide (s.2.2.1=0)) else
 if s.1=3\/s.1=4 then ixB s.2.1 n.2.2.2.1.length&&decide (s.2.2.1=0) else
 if s.1=5 then flowB n s else if s.1=6 then smI s.2.2.1&&decide (s.2.1=0) else false
def stepB(n:Net)(s:Stp):Bool:=(decide (s.2.2.2.2.2.2=0)&&(decide (s.1=5) || bareB s))&&qhf n s
/-! ### The writer -/
theorem qln(s:Str)(f:Bool){w:List Str}(hw:w.length<=1000000):qak s f w=some (f,w++[s]):=by
 unfold qak;rw[gd_t (qaw (by omega))]
theorem num_w{n:Int}(hn:i64P n)(f:Bool){w:List Str}(hw:w.length<=1000000):qaN n f w=some (f || !smI n,w++[Lib.itoa n]):=by
 have h:(bif f then some (true,w) else(bif decide (n<(-9007199254740992)) then some (true,w) else some (decide (9007199254740992<n),w)))=some (f || !smI n,w):=by
  rw[show(!smI n)=(decide (n<(-9007199254740992)) || decide (9007199254740992<n)) by
   unfold smI; rw[dlt_n,dlt_n,Bool.not_and]]
  exact qhu (qhu rfl)
 unfold qaN;rw[h,z7,qEl hn,z7,qln _ _ hw]; rfl
theorem ix_w(i:Int)(c:Nat)(f:Bool)(w:List Str):qaX i (c:Int) f w=some (ixB i c,f || !ixB i c,w):=by
 have h:(bif decide (0<=i) then some (decide (i<(c:Int)),w) else some (false,w))=some (ixB i c,w):=quY rfl;unfold qaX;rw[h];cases f <;> rfl
theorem qDm(n:Net)(s:Stp)(f:Bool){w:List Str}(hw:w.length<=1000)(k:Nat)(hk:k<2):qbh n s (k:Int) f w=
  some (.inl (((k+1:Nat):Int),f || !ixB ([s.2.2.2.1,s.2.2.2.2.1].getD k 0) n.2.2.1.length,w++portV n ([s.2.2.2.1,s.2.2.2.2.1].getD k 0))):=by
 unfold qbh;rw[dec_t (by simp; omega),za,gd_t (inB_t (show k<[s.2.2.2.1,s.2.2.2.2.1].length from hk)),z9,ix_w,z7,w1 hk (by omega)]
 generalize [s.2.2.2.1,s.2.2.2.2.1].getD k 0=i;unfold portV;cases hb:ixB i n.2.2.1.length
 ·rw[zb,z7,zb,zM]
 ·rw[za,gd_t (qsH hb),qln _ _ (by simp only; omega),za]; rfl
theorem qDn(n:Net)(s:Stp)(f:Bool)(hl:s.2.2.2.2.2.1.length<=100000)(hN:∀i,(segN n i).length<=1000):∀(r:List Hop) (k:Nat) (w:List Str),s.2.2.2.2.2.1.drop k=r->k+r.length=s.2.2.2.2.2.1.length->w.length<=1000+k->
  ∃e,iter (fun x2=>qbi n s x2.1 x2.2.1 x2.2.2) ((k:Int),f,w)=some e/\Sum.elim id id e=(f || !hopsB n r,w++hopsV n r)
 | [],k,w,h,h2,hw=>by
  refine⟨.inl (f,w),qaV ?_,?_⟩
  ·show qbi n s (k:Int) f w=_;unfold qbi;rw[dec_f (by simp at h2; omega)]; rfl
  ·show(f,w)=_;unfold hopsV hopsB;rw[zM]; cases f <;> rfl
 | h::r,k,w,he,h2,hw=>by
  have h2':k+r.length+1=s.2.2.2.2.2.1.length:=by rw[zg] at h2; omega
  have hk:k<s.2.2.2.2.2.1.length:=by omega
  have hg:s.2.2.2.2.2.1.getD k (0,false)=h:=by
   rw[zh,zk hk];have:=ze1 hk;rw[he] at this;exact(z12 this).1.symm
  have hr:s.2.2.2.2.2.1.drop (k+1)=r:=by rw[<-zE1,he]; rfl
  have hs:qbi n s (k:Int) f w=(bif ixB h.1 n.2.1.length then some (.inl (((k+1:Nat):Int),f,w++[hopV n h])) else some (.inr (.inr (true,w)))):=by
   unfold qbi;rw[dec_t (by omega),za,gd_t (inB_t hk),z9,hg,ix_w,z7,w1 hk (by omega)]
   cases hb:ixB h.1 n.2.1.length
   ·rw[show(f || !false)=true by cases f <;> rfl]; rfl
   ·rw[show(f || !true)=f by cases f <;> rfl]
    show gd _ _=some _;rw[gd_t (qsH hb)];have h3:(n.2.1.getD (h.1).toNat ([],0,0,0,0,0,[])).1.length<=1000:=hN h.1;rw[show(bif h.2 then gd (Nat.ble ([45].length+((n.2.1.getD (h.1).toNat ([],0,0,0,0,0,[])).1).length) 9223372036854775807)<|some ([45]++((n.2.1.getD (h.1).toNat ([],0,0,0,0,0,[])).1),w) else some ((n.2.1.getD (h.1).toNat ([],0,0,0,0,0,[])).1,w))=some (hopV n h,w) by
     unfold hopV segN;cases h.2
     ·rfl
     ·rw[za,gd_t (zw1 (by simp only[zI]; omega))]; rfl]
    rw[z7,qln _ _ (by simp only; omega)]; rfl
  unfold hopsV hopsB;rw[z11];cases hb:ixB h.1 n.2.1.length
  ·rw[hb] at hs;refine⟨.inr (true,w),qaV hs,?_⟩
   show(true,w)=_;rw[zb,zM]; cases f <;> rfl
  ·rw[hb] at hs;obtain⟨e,e1,e2⟩:=qDn n s f hl hN r (k+1) (w++[hopV n h]) hr (by omega) (by simp only[zd,zI]; omega)
   refine⟨e,(qbp hs).trans e1,e2.trans ?_⟩
   rw[zu]; rfl
theorem flB:∀f a1 a2 a3 a4 a5 a6:Bool,(f || !a1 || (!a2 || !a3) || !a4 || !a5 || !a6)=(f || !(a1&&(a2&&(a3&&(a4&&(a5&&a6)))))):=by decide
theorem qE6(n:Net){s:Stp}(hi:i64P s.2.2.1)(hl:s.2.2.2.2.2.1.length<=100000)(hN:∀i,(segN n i).length<=1000)(f:Bool){w:List Str}(hw:w.length<=100):qdc n s f w=some (f || !flowB n s,w++flowV n s):=by
 have hA:(w++[cFlow]++[Lib.itoa s.2.2.1]).length<=102:=by simp; omega
 have hp:∀i,(portV n i).length<=1:=fun i=>by unfold portV; cases ixB i n.2.2.1.length <;> simp
 unfold qdc;rw[qln _ _ (by omega),z7]
 simp only;rw[num_w hi _ (by simp; omega),z7]
 simp only;have h1:(bif (f || !smI s.2.2.1) then some (true,w++[cFlow]++[Lib.itoa s.2.2.1]) else(bif !decide (s.2.1=0) then some (true,w++[cFlow]++[Lib.itoa s.2.2.1]) else some (decide (32<(s.2.2.2.2.2.1.length:Int)),w++[cFlow]++[Lib.itoa s.2.2.1])))=
   some ((f || !smI s.2.2.1) || (!decide (s.2.1=0) || decide (32<(s.2.2.2.2.2.1.length:Int))),w++[cFlow]++[Lib.itoa s.2.2.1]):=qhu (qhu rfl)
 rw[h1,z7];simp only;generalize hg:((f || !smI s.2.2.1) || (!decide (s.2.1=0) || decide (32<(s.2.2.2.2.2.1.length:Int))))=g;have h2:iter (fun x=>qbh n s x.1 x.2.1 x.2.2) (0,g,w++[cFlow]++[Lib.itoa s.2.2.1])=some (g || !ixB s.2.2.2.1 n.2.2.1.length || !ixB s.2.2.2.2.1 n.2.2.1.length,w++[cFlow]++[Lib.itoa s.2.2.1]++portV n s.2.2.2.1++portV n s.2.2.2.2.1):=by
  refine(qbp (qDm n s g (zG hA (by decide)) 0 (by omega))).trans ?_
  refine(qbp (qDm n s _ (by have:=hp s.2.2.2.1; simp only[zd,List.getD_cons_zero] at hA ⊢; omega) 1 (by omega))).trans ?_
  refine qaV ?_
  show qbh n s 2 _ _=_;unfold qbh;rw[dec_f (by simp)]; rfl
 rw[h2,z7];simp only;obtain⟨e,e1,e2⟩:=qDn n s (g || !ixB s.2.2.2.1 n.2.2.1.length || !ixB s.2.2.2.2.1 n.2.2.1.length) hl hN s.2.2.2.2.2.1 0 (w++[cFlow]++[Lib.itoa s.2.2.1]++portV n s.2.2.2.1++portV n s.2.2.2.2.1) rfl (by omega)
  (by have h3:=hp s.2.2.2.1; have h4:=hp s.2.2.2.2.1; simp only[zd] at hA ⊢; omega)
 refine(congrArg (fun z=>Option.bind z _) e1).trans ?_
 have e3:∀z:(Bool×List Str)⊕(Bool×List Str),z.elim (fun s7=>some (s7.1,s7.2)) (fun s8=>some (s8.1,s8.2))=some (Sum.elim id id z):=fun z=>by cases z <;> rfl
 refine(e3 e).trans ?_
 rw[e2,<-hg];refine congrArg some (Prod.ext ?_ ?_)
 ·unfold flowB;rw[show decide (32<(s.2.2.2.2.2.1.length:Int))=!decide (s.2.2.2.2.2.1.length<=32) by rw[<-zy2]; exact zv1.2 (by omega)]
  generalize smI s.2.2.1=a1;generalize decide (s.2.1=0)=a2;generalize decide (s.2.2.2.2.2.1.length<=32)=a3;generalize ixB s.2.2.2.1 n.2.2.1.length=a4;generalize ixB s.2.2.2.2.1 n.2.2.1.length=a5;generalize hopsB n s.2.2.2.2.2.1=a6;exact flB f a1 a2 a3 a4 a5 a6
 ·unfold flowV;simp only[zu,zj1,zC]
end Go.Proofs.YtmdijohmddokhaaGreatDoor
namespace Go.Proofs.YtmdijohmddokhaaGreatDoor
open Go Go.Sq
set_option linter.unusedVariables false
structure NB(n:Net):Prop where
 s:n.2.1.length<=1000
 p:n.2.2.1.length<=1000
 a:n.2.2.2.1.length<=1000
 sn:∀i,(segN n i).length<=1000
 pn:∀i,(portN n i).length<=1000
 an:∀i,(staN n i).length<=1000
theorem pB1:∀f c d b:Bool,(f || (!c || (bif !d then !b else false)))=(f || !(c&&(d || b))):=by decide
theorem pB2:∀f p i m v:Bool,((((f || !p) || !i) || !m) || !v)=(f || !(p&&(i&&(m&&v)))):=by decide
theorem pB3:∀f p i v:Bool,(((f || !p) || !i) || !v)=(f || !(p&&(i&&v))):=by decide
theorem pB4:∀f p i:Bool,((f || !p) || !i)=(f || !(p&&i)):=by decide
theorem pB5:∀f p:Bool,true=(f || !(p&&false)):=by decide
def preB(s:Stp):Bool:=decide (s.2.2.2.2.2.2=0)&&(decide (s.1=5) || bareB s)
theorem qEm(n:Net)(i:Int):(staV n i).length<=1:=by unfold staV; cases ixB i n.2.2.2.1.length <;> simp
theorem qE7{n:Net}(hn:NB n){s:Stp}(hi:i64P s.2.1)(hv:i64P s.2.2.1)(hl:s.2.2.2.2.2.1.length<=100000)(f:Bool){w:List Str}(hw:w.length<=90):qdd n s f w=some (f || !stepB n s,w++stepV n s):=by
 have hn1:=hn.s; have hn2:=hn.p;refine ok_eq ?_
 unfold qdd;refine Ok.eq (a:=(bareB s,w)) (by rw[dlen0]; exact quY (quY rfl)) ?_
 refine Ok.eq (a:=(f || !preB s,w)) ?_ ?_
 ·refine Eq.trans (b:=some (f || (!decide (s.2.2.2.2.2.2=0) || (bif !decide (s.1=5) then !bareB s else false)),w)) (qhu (qhu ?_)) (by rw[pB1]; rfl)
  cases decide (s.1=5) <;> rfl
 have e0:stepB n s=(preB s&&qhf n s):=rfl;rw[e0];refine Ok.eq (a:=(decide (s.1=1) || decide (s.1=2),w)) (by cases decide (s.1=1) <;> rfl) ?_
 refine Ok.bif (fun h12=>?_) fun h12=>?_
 ·have hk:s.1=1\/s.1=2:=by simpa using h12
  refine Ok.gd (qae.2 (by rcases hk with h | h <;> rw[h] <;> decide)) ?_
  refine Ok.eq (qln _ _ (zG hw (by decide))) ?_
  rw[show wi64 ((n.2.1.length:Int)+(n.2.2.1.length:Int))=((n.2.1.length+n.2.2.1.length:Nat):Int) by rw[wi (by omega)]; omega]
  refine Ok.eq (ix_w _ _ _ _) ?_
  refine Ok.eq (num_w hi _ (by simp; omega)) ?_
  refine⟨_,qhu rfl,Prod.ext ?_ ?_⟩
  ·unfold qhf;rw[if_pos hk];exact pB2 _ _ _ _ _
  ·unfold stepV;simp only[zu];rcases hk with h | h
   ·rw[if_pos h,h]; rfl
   ·rw[if_neg (by omega),if_pos h,h]; rfl
 have hk:¬(s.1=1\/s.1=2):=by simpa using h12
 refine Ok.eq (a:=(decide (s.1=3) || decide (s.1=4),w)) (by cases decide (s.1=3) <;> rfl) ?_
 refine Ok.bif (fun h34=>?_) fun h34=>?_
 ·have hk3:s.1=3\/s.1=4:=by simpa using h34
  have h1:=qEm n s.2.1;refine Ok.gd (qae.2 (by rcases hk3 with h | h <;> rw[h] <;> decide)) ?_
  refine Ok.eq (qln _ _ (zG hw (by decide))) ?_
  refine Ok.eq (ix_w _ _ _ _) ?_
  refine Ok.eq (a:=((f || !preB s) || !ixB s.2.1 n.2.2.2.1.length,w++[([[],[],[],[115,116,97,114,116],[115,116,111,112]]:List (List UInt8)).getD s.1.toNat []]++staV n s.2.1)) ?_ ?_
  ·unfold staV;show(bif ixB s.2.1 n.2.2.2.1.length then _ else _)=_;cases hb:ixB s.2.1 n.2.2.2.1.length
   ·rw[zb,zb,zM]
   ·rw[za,za];exact ok_eq (Ok.gd (qsH hb) (Ok.eq (qln _ _ (by simp only[zd,zI]; omega)) (.ret rfl)))
  refine⟨_,qhu rfl,Prod.ext ?_ ?_⟩
  ·unfold qhf;rw[if_neg hk,if_pos hk3];exact pB3 _ _ _ _
  ·unfold stepV;simp only[zu];rcases hk3 with h | h
   ·rw[if_neg (by omega),if_neg (by omega),if_pos h,h]; rfl
   ·rw[if_neg (by omega),if_neg (by omega),if_neg (by omega),if_pos h,h]; rfl
 have hk3:¬(s.1=3\/s.1=4):=by simpa using h34
 unfold qhf stepV;rw[if_neg hk,if_neg hk3,if_neg (show ¬s.1=1 by omega),if_neg (show ¬s.1=2 by omega),if_neg (show ¬s.1=3 by omega),if_neg (show ¬s.1=4 by omega)]
 refine Ok.bif (fun h5=>?_) fun h5=>?_
 ·have h5:=zi h5;rw[if_pos h5,if_pos h5];exact Ok.eq (qE6 n hv hl hn.sn _ (zG hw (by decide))) (.ret (Prod.ext (pB4 _ _ _) rfl))
 have h5:=zN h5;rw[if_neg h5,if_neg h5];refine Ok.bif (fun h6=>?_) fun h6=>?_
 ·have h6:=zi h6;rw[if_pos h6,if_pos h6];refine Ok.eq (qln _ _ (zG hw (by decide))) ?_
  refine Ok.eq (num_w hv _ (by simp; omega)) ?_
  refine⟨_,qhu rfl,Prod.ext ?_ ?_⟩
  ·exact pB3 _ _ _ _
  ·simp only[zu]; rfl
 have h6:=zN h6;rw[if_neg h6,if_neg h6];exact .ret (Prod.ext (pB5 _ _) (zM w).symm)
/-! ### A record -/
def entB(e:Ent3):Bool:=ixB (e.2.1-1) 4&&(Ac.nameP e.1&&smI e.2.2)
def entV(e:Ent3):List Str:=qlm::((bif ixB (e.2.1-1) 4 then [kindL.getD e.2.1.toNat []] else [])++[e.1,Lib.itoa e.2.2])
def recV(n:Net)(r:Rec):List Str:=
 if r.1=1 then cTele::r.2.1.map Lib.itoa else if r.1=2 then stepV n r.2.2.1 else if r.1=3 then entV r.2.2.2 else []
def recB(n:Net)(r:Rec):Bool:=
 if r.1=1 then(noB r.2.2.1&&noE r.2.2.2)&&(decide (5<=r.2.1.length)&&(decide (r.2.1.length<=21)&&r.2.1.all smI)) else
 if r.1=2 then(decide (r.2.1.length=0)&&noE r.2.2.2)&&stepB n r.2.2.1 else
 if r.1=3 then(decide (r.2.1.length=0)&&noB r.2.2.1)&&entB r.2.2.2 else false
structure RcI(r:Rec):Prop where
 v:r.2.1.length<=100000
 vi:∀x∈r.2.1,i64P x
 i:i64P r.2.2.1.2.1
 w:i64P r.2.2.1.2.2.1
 h:r.2.2.1.2.2.2.2.2.1.length<=100000
 n:r.2.2.2.1.length<=100000
 k:i64P r.2.2.2.2.1
 e:i64P r.2.2.2.2.2
theorem qBc(s:Stp):qec s=some (noB s):=by
 unfold qec noB;rw[dlen0];exact qkN (qkN (qkN (qkN (qkN (qkN rfl)))))
def headB(r:Rec):Bool:=(!decide (r.1=1)&&decide (0<(r.2.1.length:Int))) || ((!decide (r.1=2)&&!noB r.2.2.1) || (!decide (r.1=3)&&!noE r.2.2.2))
theorem qDo(r:Rec)(f:Bool)(hv:r.2.1.length<=100000)(hi:∀x∈r.2.1,i64P x):∀(t:List Int) (k:Nat) (f:Bool) (w:List Str),r.2.1.drop k=t->k+t.length=r.2.1.length->w.length<=1000+k->
  iter (fun x=>qa0 r x.1 x.2.1 x.2.2) ((k:Int),f,w)=some (f || !t.all smI,w++t.map Lib.itoa)
 | [],k,f,w,h,h2,hw=>by
  refine qaV ?_
  show qa0 r (k:Int) f w=_;unfold qa0;rw[dec_f (by simp at h2; omega),zc2,zM,List.all_nil]; cases f <;> rfl
 | x::t,k,f,w,he,h2,hw=>by
  have h2':k+t.length+1=r.2.1.length:=by rw[zg] at h2; omega
  have hk:k<r.2.1.length:=by omega
  have hd:=ze1 hk;rw[he] at hd;have hg:r.2.1.getD k 0=x:=by
   rw[zh,zk hk];exact(z12 hd).1.symm
  have hs:qa0 r (k:Int) f w=some (.inl (((k+1:Nat):Int),f || !smI x,w++[Lib.itoa x])):=by
   unfold qa0;rw[dec_t (by omega),za,gd_t (inB_t hk),z9,hg,num_w (hi x (by rw[<-hg]; exact gmem hk)) _ (by omega),z7,w1 hk (by omega)]
  refine(qbp hs).trans ?_
  rw[qDo r f hv hi t (k+1) _ _ (z12 hd).2.symm (by omega) (by simp only[zd,zI]; omega),z11,zh1,zu]
  refine congrArg some (Prod.ext ?_ rfl)
  show(f || !smI x || !t.all smI)=(f || !(smI x&&t.all smI));cases f <;> cases smI x <;> rfl
theorem ix4{k:Int}(h:i64P k):ixB (wi64 (k-1)) 4=ixB (k-1) 4:=by
 obtain⟨h1,h2⟩:=h;by_cases hk:k=-9223372036854775808
 ·subst hk; decide
 ·rw[wi (by omega)]
theorem rB1:∀a b l5 l21 sm:Bool,(false || ((!a || !b) || (!l5 || !l21)) || !sm)=!((a&&b)&&(l5&&(l21&&sm))):=by decide
theorem dpos{A:Type}(l:List A):decide (0<(l.length:Int))=!decide (l.length=0):=by
 rw[<-zy2]; exact zv1.2 (by omega)
theorem qCF{n:Net}(hn:NB n){r:Rec}(hr:RcI r):qcL n r false []=some (!recB n r,recV n r):=by
 refine ok_eq ?_
 unfold qcL;have hb:qec (r.2.2.1.1,r.2.2.1.2.1,r.2.2.1.2.2.1,r.2.2.1.2.2.2.1,r.2.2.1.2.2.2.2.1,r.2.2.1.2.2.2.2.2.1,r.2.2.1.2.2.2.2.2.2)=some (noB r.2.2.1):=qBc _;refine Ok.eq (a:=(headB r,[])) ?_ ?_
 ·rw[hb];unfold headB noE;generalize noB r.2.2.1=nb;generalize (decide (r.2.2.2.1=[])&&(decide (r.2.2.2.2.1=0)&&decide (r.2.2.2.2.2=0)))=ne;generalize decide (r.1=1)=d1;generalize decide (r.1=2)=d2;generalize decide (r.1=3)=d3;generalize decide (0<(r.2.1.length:Int))=dl;cases d1 <;> cases d2 <;> cases d3 <;> cases dl <;> cases nb <;> cases ne <;> rfl
 unfold recB recV headB;rw[dpos];refine Ok.bif (fun h1=>?_) fun h1=>?_
 ·have h1:=zi h1;rw[if_pos h1,if_pos h1,dec_t h1,dec_f (show ¬r.1=2 by omega),dec_f (show ¬r.1=3 by omega)]
  refine Ok.eq (qln _ _ (by simp)) ?_
  refine Ok.eq (a:=((!noB r.2.2.1 || !noE r.2.2.2) || (!decide (5<=r.2.1.length) || !decide (r.2.1.length<=21)),[cTele])) ?_ ?_
  ·refine(qhu (qhu rfl)).trans ?_
   rw[show decide ((r.2.1.length:Int)<5)=!decide (5<=r.2.1.length) by rw[<-zy2]; exact zv1.2 (by omega),
    show decide (21<(r.2.1.length:Int))=!decide (r.2.1.length<=21) by rw[<-zy2]; exact zv1.2 (by omega)]
   rfl
  refine Ok.eq (qDo r true hr.v hr.vi r.2.1 0 _ [cTele] rfl (by omega) (by simp)) (.ret (Prod.ext ?_ rfl))
  exact rB1 _ _ _ _ _
 have h1:=zN h1;rw[if_neg h1,if_neg h1,dec_f h1];refine Ok.bif (fun h2=>?_) fun h2=>?_
 ·have h2:=zi h2;rw[if_pos h2,if_pos h2,dec_t h2,dec_f (show ¬r.1=3 by omega)]
  refine Ok.eq (qE7 hn (s:=r.2.2.1) hr.i hr.w hr.h _ (by simp)) (.ret (Prod.ext ?_ rfl))
  show((!false&&!decide (r.2.1.length=0) || (!true&&!noB r.2.2.1 || !false&&!noE r.2.2.2)) || !stepB n r.2.2.1)=_;generalize decide (r.2.1.length=0)=a;generalize noE r.2.2.2=b;generalize stepB n r.2.2.1=c;generalize noB r.2.2.1=d;cases a <;> cases b <;> cases c <;> cases d <;> rfl
 have h2:=zN h2;rw[if_neg h2,if_neg h2,dec_f h2];refine Ok.bif (fun h3=>?_) fun h3=>?_
 ·have h3:=zi h3;rw[if_pos h3,if_pos h3,dec_t h3];refine Ok.eq (qln _ _ (by simp)) (Ok.eq (a:=kindL) rfl ?_)
  rw[show wi64 ((kindL.length:Int)-1)=((4:Nat):Int) by decide]
  refine Ok.eq (ix_w _ _ _ _) ?_
  rw[ix4 hr.k];generalize hg:((!false&&!decide (r.2.1.length=0)) || ((!false&&!noB r.2.2.1) || (!true&&!noE r.2.2.2)))=g;refine Ok.eq (a:=(g || !ixB (r.2.2.2.2.1-1) 4,[qlm]++(bif ixB (r.2.2.2.2.1-1) 4 then [kindL.getD r.2.2.2.2.1.toNat []] else []))) ?_ ?_
  ·show(bif ixB (r.2.2.2.2.1-1) 4 then _ else _)=_;cases hb:ixB (r.2.2.2.2.1-1) 4
   ·rfl
   ·rw[za,za];have:=ixB_t hb;exact ok_eq (Ok.eq (a:=kindL) rfl (Ok.gd (qae.2 (by simp; omega)) (Ok.eq (qln _ _ (by simp)) (.ret rfl))))
  refine Ok.eq (a:=((g || !ixB (r.2.2.2.2.1-1) 4) || !Ac.nameP r.2.2.2.1,_)) (qhu (ok_eq (Ok.eq (Ac.name_eq _) (.ret rfl)))) ?_
  have hl:(([qlm]:List Str)++(bif ixB (r.2.2.2.2.1-1) 4 then [kindL.getD r.2.2.2.2.1.toNat []] else [])).length<=2:=by cases ixB (r.2.2.2.2.1-1) 4 <;> simp
  refine Ok.eq (qln _ _ (zG hl (by decide))) ?_
  refine Ok.eq (num_w hr.e _ ?_) (.ret (Prod.ext ?_ ?_))
  ·rw[zd,zI];exact zG (Nat.succ_le_succ hl) (by decide)
  ·rw[<-hg];show _=!((decide (r.2.1.length=0)&&noB r.2.2.1)&&entB r.2.2.2);unfold entB;generalize ixB (r.2.2.2.2.1-1) 4=i;generalize Ac.nameP r.2.2.2.1=m;generalize smI r.2.2.2.2.2=s;generalize decide (r.2.1.length=0)=a;generalize noB r.2.2.1=b;generalize noE r.2.2.2=c;cases a <;> cases b <;> cases i <;> cases m <;> cases s <;> cases c <;> rfl
  ·unfold entV;simp only[zu,zj1,zC]
 have h3:=zN h3;rw[if_neg h3,if_neg h3];exact .ret rfl
end Go.Proofs.YtmdijohmddokhaaGreatDoor
namespace Go.Proofs.YtmdijohmddokhaaGreatDoor
open Go Go.Sq
set_option linter.unusedVariables false
theorem qj5{n:Int}(h:i64P n):(Lib.itoa n).length<=20:=by
 obtain⟨h1,h2⟩:=h;have:=qsF 18 n.natAbs (by omega)
 rw[qpQ];split
 ·rw[zg]; omega
 ·omega
theorem qEn{w:List Str}(h1:w.length<=200000)(h2:∀x∈w,x.length<=100000):joinT w [32]=some (joinS w):=by
 have h3:=qw8 h2;have h4:=quV w;have h5:w.length*100000<=200000*100000:=zA _ h1;unfold joinT;rw[zw1 (by omega),zw1 (by show(joinS w).length<=_; omega)]; rfl
theorem quZ{n:Net}(hn:∀i,(segN n i).length<=1000):∀l:List Hop,(hopsV n l).length<=l.length/\∀x∈hopsV n l,x.length<=1001
 | []=>⟨z61 _,fun x hx=>by cases hx⟩
 | h::r=>by
  have ih:=quZ hn r;unfold hopsV;cases ixB h.1 n.2.1.length
  ·exact⟨zu1 _,fun x hx=>by cases hx⟩
  ·refine⟨Nat.succ_le_succ ih.1,fun x hx=>?_⟩
   rcases zw.1 hx with rfl | hx
   ·have:=hn h.1;unfold hopV;cases h.2
    ·rw[zb]; omega
    ·rw[za,zg]; omega
   ·exact ih.2 x hx
structure Sz(w:List Str)(k m:Nat):Prop where
 l:w.length<=k
 x:∀x∈w,x.length<=m
theorem Sz.nil{k m:Nat}:Sz [] k m:=⟨zu1 _,fun x hx=>by cases hx⟩
theorem Sz.cons{x:Str}{w:List Str}{k m:Nat}(hx:x.length<=m)(h:Sz w k m):Sz (x::w) (k+1) m:=⟨Nat.succ_le_succ h.l,fun y hy=>by
 rcases zw.1 hy with rfl | hy
 ·exact hx
 ·exact h.x y hy⟩
theorem Sz.app{a b:List Str}{k j m:Nat}(h:Sz a k m)(h':Sz b j m):Sz (a++b) (k+j) m:=⟨by rw[zd]; exact Nat.add_le_add h.l h'.l,fun y hy=>(zD.1 hy).elim (h.x y) (h'.x y)⟩
theorem Sz.mono{w:List Str}{k m k' m':Nat}(h:Sz w k m)(hk:k<=k')(hm:m<=m'):Sz w k' m':=⟨zG h.l hk,fun x hx=>zG (h.x x hx) hm⟩
theorem Sz.bif{c:Bool}{x:Str}{m:Nat}(hx:c=true->x.length<=m):Sz (bif c then [x] else []) 1 m:=by
 cases c
 ·exact .nil
 ·exact .cons (hx rfl) .nil
theorem qBd{n:Net}(hn:NB n){r:Rec}(hr:RcI r):Sz (recV n r) 200000 100000:=by
 unfold recV;split
 ·exact Sz.mono (Sz.cons (m:=100000) (k:=100000) (by decide) ⟨by rw[z71]; exact hr.v,fun x hx=>by
   obtain⟨v,hv,rfl⟩:=zS.1 hx;exact zG (qj5 (hr.vi v hv)) (by decide)⟩) (by decide) (by decide)
 split
 ·have hp:∀i,Sz (portV n i) 1 100000:=fun i=>Sz.bif fun _=>zG (hn.pn i) (by decide)
  have hs:∀i,Sz (staV n i) 1 100000:=fun i=>Sz.bif fun _=>zG (hn.an i) (by decide)
  have hi:=zG (qj5 hr.i) (show 20<=100000 by decide)
  have hw:=zG (qj5 hr.w) (show 20<=100000 by decide)
  have hh:=quZ hn.sn r.2.2.1.2.2.2.2.2.1;have hh:=hr.h;unfold stepV;split
  ·exact(Sz.cons (by decide) (.cons hi (.nil (k:=0)))).mono (by decide) (by decide)
  split
  ·exact(Sz.cons (by decide) (.cons hi (.nil (k:=0)))).mono (by decide) (by decide)
  split
  ·exact(Sz.cons (by decide) (hs _)).mono (by decide) (by decide)
  split
  ·exact(Sz.cons (by decide) (hs _)).mono (by decide) (by decide)
  split
  ·have hz:=quZ hn.sn r.2.2.1.2.2.2.2.2.1;exact(Sz.cons (by decide) (.cons hw ((hp _).app ((hp _).app ⟨zG hz.1 hr.h,fun x hx=>zG (hz.2 x hx) (by decide)⟩)))).mono (by decide) (by decide)
  split
  ·exact(Sz.cons (by decide) (.cons hw (.nil (k:=0)))).mono (by decide) (by decide)
  ·exact .nil
 split
 ·refine(Sz.cons (by decide) ((Sz.bif fun hb=>?_).app (.cons hr.n (.cons (zG (qj5 hr.e) (by decide)) (.nil (k:=0)))))).mono (by decide) (by decide)
  have:=ixB_t hb;have hm:∀x∈kindL,x.length<=100000:=by decide
  exact hm _ (gmem (by simp; omega))
 ·exact .nil
theorem qyd{n:Net}(hn:NB n){r:Rec}(hr:RcI r):qev n r=some (joinS (recV n r),recB n r):=by
 refine ok_eq ?_
 have hz:=qBd hn hr;unfold qev;refine Ok.eq (a:=(false,[])) rfl (Ok.eq (qCF hn hr) (Ok.eq (qEn hz.l hz.x) (.ret (Prod.ext rfl ?_))))
 exact ze2 _
/-! ### The reference's numbers -/
theorem rdig:∀(m k a:Nat),a<10^(m+1)->a<=9223372036854775808->m<=100->qdF (k+m+1) (-(a:Int))=some (Lib.decDigits a):=by
 have hc:∀a:Nat,a<10->qga [wu8 (wi64 (48+(a:Int)))]=[UInt8.ofNat (48+a)]:=fun a ha=>by
  rw[wi (by omega),show wu8 (48+(a:Int))=48+(a:Int) from IntWalk.u8_in _ (by omega)]
  show [UInt8.ofNat (48+(a:Int)).toNat]=_;rw[show(48+(a:Int)).toNat=48+a by omega]
 intro m;induction m with
 | zero=>
  intro k a ha _ _;have ha:a<10:=by simpa using ha
  show qeN (qdF (k+0)) (-(a:Int))=_;unfold qeN;rw[dec_t (by omega),za,Lib.decDigits_one ha,show(48:Int) - -(a:Int)=48+(a:Int) by omega,hc a ha]
 | succ m ih=>
  intro k a ha hb hm;show qeN (qdF (k+(m+1))) (-(a:Int))=_;unfold qeN;by_cases h:a<10
  ·rw[dec_t (by omega),za,Lib.decDigits_one h,show(48:Int) - -(a:Int)=48+(a:Int) by omega,hc a h]
  ·have e1:Int.tdiv (-(a:Int)) 10=-((a/10:Nat):Int):=by rw[Int.neg_tdiv,Int.tdiv_eq_ediv_of_nonneg (by omega)]; omega
   have e2:Int.tmod (-(a:Int)) 10=-((a%10:Nat):Int):=by rw[Int.neg_tmod,Int.tmod_eq_emod_of_nonneg (by omega)]; omega
   have hd:a/10<10^(m+1):=zG2 (by rw[Nat.pow_succ,zX1] at ha; exact ha)
   have hl:=qsF m (a/10) hd;have hx:Lib.decDigits a=Lib.decDigits (a/10)++[UInt8.ofNat (48+a%10)]:=by rw[Lib.decDigits,dif_neg h]
   rw[dec_f (by omega),zb,e1,wi (by omega),show k+(m+1)=k+m+1 by omega,ih k (a/10) hd (by omega) (by omega),z7,e2,show(48:Int) - -((a%10:Nat):Int)=48+((a%10:Nat):Int) by omega,hc _ (by omega),gd_t,hx]
   exact zw1 (by simp; omega)
theorem qj6{n:Int}(h:i64P n):qbI n=some (Lib.itoa n):=by
 obtain⟨h1,h2⟩:=h;have hd:qmt (-(n.natAbs:Int))=some (Lib.decDigits n.natAbs):=rdig 18 18446744073709551597 n.natAbs (by omega) (by omega) (by decide)
 have hl:=qsF 18 n.natAbs (by omega)
 unfold qbI;rw[qpQ];by_cases hn:n<0
 ·rw[dec_t hn,za,if_pos hn];rw[show -(n.natAbs:Int)=n by omega] at hd
  rw[hd,z7,gd_t (zw1 (by simp only[zI]; omega))]; rfl
 ·rw[dec_f hn,zb,if_neg hn,wi (by omega)]
  rw[show -(n.natAbs:Int)=0-n by omega] at hd
  rw[hd]; rfl
theorem qpR(n:Int):qgo n=some (smI n):=qkN rfl
theorem rsame0(s:Stp):qch s (0,0,0,0,0,[],0)=some (noB s):=by
 refine Eq.trans ?_ (qqj s)
 unfold qfq;generalize qch s _=x;cases x <;> rfl
end Go.Proofs.YtmdijohmddokhaaGreatDoor
namespace Go.Proofs.YtmdijohmddokhaaGreatDoor
open Go Go.Sq
set_option linter.unusedVariables false
theorem qj7(x:Str):joinS [x]=x:=by
 show List.intercalate [32] [x]=x;simp[List.intercalate]
theorem dle_n(a b:Int):decide (a<=b)=!decide (b<a):=by
 rw[<-zy2]; exact zv1.2 (by omega)
theorem qju{n:Int}(h:smI n=true):i64P n:=by
 have:=smI_t h;exact⟨by omega,by omega⟩
theorem ble_t{a b:Nat}(h:a<=b):Nat.ble a b=true:=zw1 h
theorem qkO{p:List Str}(hp:p≠[])(x:Str):(joinS p++[32])++x=joinS (p++[x]):=by
 rw[qtC x hp,zu]; rfl
theorem rvals(r:Rec):∀(t:List Int) (k:Nat) (p:List Str),p≠[]->r.2.1.drop k=t->k+t.length=r.2.1.length->r.2.1.length<=100000->(joinS p).length<=100*(k+1)->
  ∃e,iter (fun x=>qbo r x.1 x.2) (joinS p,(k:Int))=some e/\Sum.elim id id e=bif t.all smI then joinS (p++t.map Lib.itoa) else []
 | [],k,p,hp,h,h2,hl,hj=>by
  refine⟨.inl (joinS p),qaV ?_,?_⟩
  ·show qbo r (joinS p) (k:Int)=_;unfold qbo;rw[dec_f (by simp at h2; omega)]; rfl
  ·rw[zc2,zM]; rfl
 | x::t,k,p,hp,he,h2,hl,hj=>by
  have h2':k+t.length+1=r.2.1.length:=by rw[zg] at h2; omega
  have hk:k<r.2.1.length:=by omega
  have hd:=ze1 hk;rw[he] at hd;have hg:r.2.1.getD k 0=x:=by
   rw[zh,zk hk];exact(z12 hd).1.symm
  rw[z11];cases hs:smI x
  ·refine⟨.inr [],qaV ?_,rfl⟩
   show qbo r (joinS p) (k:Int)=_;unfold qbo;rw[dec_t (by omega),za,gd_t (inB_t hk),z9,hg,qpR,z7,hs]; rfl
  ·have hx:=qdy hs;have h1:qbo r (joinS p) (k:Int)=some (.inl (joinS (p++[Lib.itoa x]),((k+1:Nat):Int))):=by
    unfold qbo;rw[dec_t (by omega),za,gd_t (inB_t hk),z9,hg,qpR,z7,hs]
    show gd _ _=_;rw[gd_t (ble_t (by simp only[zI]; omega)),gd_t (inB_t hk),qj6 (qju hs),z7,gd_t (ble_t (by simp only[zd,zI]; omega)),w1 hk (by omega),qkO hp]
   obtain⟨e,e1,e2⟩:=rvals r t (k+1) (p++[Lib.itoa x]) (by simp) (z12 hd).2.symm (by omega) hl (by
    rw[<-qkO hp]; simp only[zd,zI]; omega)
   refine⟨e,(qbp h1).trans e1,e2.trans ?_⟩
   rw[zu]; rfl
theorem elimS(z:Str⊕Str):z.elim (fun s4=>some s4) (fun s5=>some s5)=some (Sum.elim id id z):=by cases z <;> rfl
theorem qEo{r:Rec}(h1:r.1=1)(n:Net):qgJ r=some (bif recB n r then joinS (recV n r) else []):=by
 refine ok_eq ?_
 unfold recB recV;rw[if_pos h1,if_pos h1];unfold qgJ;refine Ok.eq (a:=!noB r.2.2.1 || (!noE r.2.2.2 || (decide ((r.2.1.length:Int)<5) || decide (21<(r.2.1.length:Int))))) ?_ ?_
 ·exact ok_eq (Ok.eq (rsame0 r.2.2.1) ⟨_,qd6 (qd6 (qd6 rfl)),rfl⟩)
 rw[show decide ((r.2.1.length:Int)<5)=!decide (5<=r.2.1.length) by rw[<-zy2]; exact zv1.2 (by omega),
  show decide (21<(r.2.1.length:Int))=!decide (r.2.1.length<=21) by rw[<-zy2]; exact zv1.2 (by omega)]
 cases noB r.2.2.1
 ·exact .ret rfl
 cases noE r.2.2.2
 ·exact .ret rfl
 cases h5:decide (5<=r.2.1.length)
 ·exact .ret rfl
 cases h21:decide (r.2.1.length<=21)
 ·exact .ret rfl
 have h21:=zi h21;obtain⟨e,e1,e2⟩:=rvals r r.2.1 0 [cTele] (by simp) rfl (by omega) (by omega) (by rw[qj7]; decide)
 rw[qj7] at e1;show Ok ((iter _ _).bind _) _;refine Ok.eq e1 ?_
 exact⟨_,elimS e,e2⟩
theorem rhops(n:Net)(s:Stp)(hN:∀i,(segN n i).length<=1000):∀(t:List Hop) (k:Nat) (p:List Str),p≠[]->s.2.2.2.2.2.1.drop k=t->k+t.length=s.2.2.2.2.2.1.length->s.2.2.2.2.2.1.length<=100000->(joinS p).length<=10000*(k+1)->
  ∃e,iter (fun x=>qcP n s x.1 x.2) (joinS p,(k:Int))=some e/\Sum.elim id id e=bif hopsB n t then joinS (p++hopsV n t) else []
 | [],k,p,hp,h,h2,hl,hj=>by
  refine⟨.inl (joinS p),qaV ?_,?_⟩
  ·show qcP n s (joinS p) (k:Int)=_;unfold qcP;rw[dec_f (by simp at h2; omega)]; rfl
  ·unfold hopsV; rw[zM]; rfl
 | x::t,k,p,hp,he,h2,hl,hj=>by
  have h2':k+t.length+1=s.2.2.2.2.2.1.length:=by rw[zg] at h2; omega
  have hk:k<s.2.2.2.2.2.1.length:=by omega
  have hd:=ze1 hk;rw[he] at hd;have hg:s.2.2.2.2.2.1.getD k (0,false)=x:=by
   rw[zh,zk hk];exact(z12 hd).1.symm
  unfold hopsB hopsV;rw[z11];have hb:(bif decide (x.1<0) then some true else some (decide ((n.2.1.length:Int)<=x.1)))=some (!ixB x.1 n.2.1.length):=by
   unfold ixB;rw[dlt_n x.1 0,dle_n (n.2.1.length:Int) x.1,Bool.not_and]; exact qd6 rfl
  have hx:=hN x.1;cases hs:ixB x.1 n.2.1.length
  ·refine⟨.inr [],qaV ?_,rfl⟩
   show qcP n s (joinS p) (k:Int)=_;unfold qcP;rw[dec_t (by omega),za,gd_t (inB_t hk),z9,hg,hb,z7,hs]; rfl
  ·have h1:qcP n s (joinS p) (k:Int)=some (.inl (joinS (p++[hopV n x]),((k+1:Nat):Int))):=by
    unfold qcP;rw[dec_t (by omega),za,gd_t (inB_t hk),z9,hg,hb,z7,hs]
    have hx':(n.2.1.getD x.1.toNat ([],0,0,0,0,0,[])).1.length<=1000:=hx;have h45:(bif x.2 then([45]:Str) else []).length<=1:=by cases x.2 <;> simp
    refine ok_eq (Ok.gd (ble_t (by simp only[zI]; omega)) (Ok.eq (a:=(joinS p++[32])++bif x.2 then([45]:Str) else []) ?_ (Ok.gd (qsH hs) (Ok.gd (ble_t ?_) (.ret ?_)))))
    ·cases x.2
     ·exact congrArg some (zM _).symm
     ·exact gd_t (ble_t (by simp only[zd,zI]; omega))
    ·simp only[zd,zI] at h45 ⊢;omega
    ·rw[<-qkO hp,w1 hk (by omega)]
     unfold hopV segN;cases x.2
     ·rw[zb,zb,zM]
     ·rw[za,za,zu (joinS p++[32])]; rfl
   have hv:(hopV n x).length<=1001:=by
    unfold hopV;cases x.2
    ·rw[zb]; omega
    ·rw[za,zg]; omega
   obtain⟨e,e1,e2⟩:=rhops n s hN t (k+1) (p++[hopV n x]) (by simp) (z12 hd).2.symm (by omega) hl (by
    rw[<-qkO hp]; simp only[zd,zI]; omega)
   refine⟨e,(qbp h1).trans e1,e2.trans ?_⟩
   rw[zu]; rfl
theorem qBe{n:Net}(hn:NB n)(s:Stp):qm3 n s=some (bif decide (s.2.2.2.2.2.2=0)&&flowB n s then joinS (flowV n s) else []):=by
 refine ok_eq ?_
 unfold qm3;refine Ok.eq (a:=!decide (s.2.1=0) || (!decide (s.2.2.2.2.2.2=0) || (!smI s.2.2.1 || (decide (s.2.2.2.1<0) || (decide ((n.2.2.1.length:Int)<=s.2.2.2.1) || (decide (s.2.2.2.2.1<0) || (decide ((n.2.2.1.length:Int)<=s.2.2.2.2.1) || decide (32<(s.2.2.2.2.2.1.length:Int))))))))) ?_ ?_
 ·exact qd6 (qd6 (ok_eq (Ok.eq (qpR _) ⟨_,qd6 (qd6 (qd6 (qd6 (qd6 rfl)))),rfl⟩)))
 rw[dlt_n s.2.2.2.1,dle_n (n.2.2.1.length:Int) s.2.2.2.1,dlt_n s.2.2.2.2.1,dle_n (n.2.2.1.length:Int) s.2.2.2.2.1,show decide (32<(s.2.2.2.2.2.1.length:Int))=!decide (s.2.2.2.2.2.1.length<=32) by rw[<-zy2]; exact zv1.2 (by omega)]
 unfold flowB;cases decide (s.2.1=0)
 ·rw[zU2,z72,z72]; exact .ret rfl
 cases decide (s.2.2.2.2.2.2=0)
 ·exact .ret rfl
 cases hv:smI s.2.2.1
 ·exact .ret rfl
 have hi:(bif ixB s.2.2.2.1 n.2.2.1.length then false else true)=(!decide (0<=s.2.2.2.1) || !decide (s.2.2.2.1<(n.2.2.1.length:Int))):=by unfold ixB; cases decide (0<=s.2.2.2.1) <;> cases decide (s.2.2.2.1<(n.2.2.1.length:Int)) <;> rfl
 have ho:(bif ixB s.2.2.2.2.1 n.2.2.1.length then false else true)=(!decide (0<=s.2.2.2.2.1) || !decide (s.2.2.2.2.1<(n.2.2.1.length:Int))):=by unfold ixB; cases decide (0<=s.2.2.2.2.1) <;> cases decide (s.2.2.2.2.1<(n.2.2.1.length:Int)) <;> rfl
 rw[<-Bool.or_assoc (!decide (0<=s.2.2.2.1)),<-hi,<-Bool.or_assoc (!decide (0<=s.2.2.2.2.1)),<-ho];cases hb1:ixB s.2.2.2.1 n.2.2.1.length
 ·rw[zU2,z72]; exact .ret rfl
 cases hb2:ixB s.2.2.2.2.1 n.2.2.1.length
 ·rw[zU2,z72,z72]; exact .ret rfl
 cases h32:decide (s.2.2.2.2.2.1.length<=32)
 ·exact .ret rfl
 have h32:=zi h32;have hl:=qdy hv;have hp1:(n.2.2.1.getD s.2.2.2.1.toNat ([],0,0)).1.length<=1000:=hn.pn _;have hp2:(n.2.2.1.getD s.2.2.2.2.1.toNat ([],0,0)).1.length<=1000:=hn.pn _;show Ok ((qbI _).bind _) _;refine Ok.eq (qj6 (qju hv)) ?_
 refine Ok.gd (ble_t (by simp only[zg,zx]; omega)) (Ok.gd (ble_t (by simp only[zd,zg,zx]; omega)) (Ok.gd (qsH hb1) (Ok.gd (ble_t (by simp only[zd,zg,zx]; omega))
  (Ok.gd (ble_t (by simp only[zd,zg,zx]; omega)) (Ok.gd (qsH hb2) (Ok.gd (ble_t (by simp only[zd,zg,zx]; omega)) ?_))))))
 have hj:(((([102,108,111,119,32]++Lib.itoa s.2.2.1)++[32])++((n.2.2.1.getD s.2.2.2.1.toNat ([],0,0)).1))++[32])++((n.2.2.1.getD s.2.2.2.2.1.toNat ([],0,0)).1)=joinS [cFlow,Lib.itoa s.2.2.1,portN n s.2.2.2.1,portN n s.2.2.2.2.1]:=by
  rw[qbt,qbt,qbt,qj7];unfold portN;simp only[zu,zj1,zC]
 obtain⟨e,e1,e2⟩:=rhops n s hn.sn s.2.2.2.2.2.1 0 [cFlow,Lib.itoa s.2.2.1,portN n s.2.2.2.1,portN n s.2.2.2.2.1] (by simp) rfl (by omega) (by omega) (by
  rw[<-hj]; simp only[zd,zg,zx]; omega)
 rw[<-hj] at e1;refine Ok.eq e1 ⟨_,elimS e,e2.trans ?_⟩
 unfold flowV portV;rw[hb1,hb2];cases hopsB n s.2.2.2.2.2.1 <;> rfl
end Go.Proofs.YtmdijohmddokhaaGreatDoor
namespace Go.Proofs.YtmdijohmddokhaaGreatDoor
open Go Go.Sq
set_option linter.unusedVariables false
/-! ### The names of a network -/
theorem qE8{l:List Str}(h:twL l=false):l.Nodup:=by
 unfold List.Nodup;rw[List.pairwise_iff_getElem];intro i j hi hj hij he;have:twL l=true:=by
  unfold twL;rw[zp2];refine⟨j,zK.2 hj,?_⟩
  rw[zp2];refine⟨i,zK.2 hij,z21 ?_⟩
  rw[zh,zh,zk hi,zk hj];exact he.symm
 rw[h] at this; cases this
structure NmP(n:Net):Prop where
 nb:NB n
 sf:∀x∈n.2.1,nameB x.1=true
 pf:∀x∈n.2.2.1,nameB x.1=true
 af:∀x∈n.2.2.2.1,nameB x.1=true
 sd:(n.2.1.map (·.1)).Nodup
 pd:(n.2.2.1.map (·.1)).Nodup
 ad:(n.2.2.2.1.map (·.1)).Nodup
theorem qna{x:Str}(h:nameB x=true):x.length<=12:=(qsG h).2
theorem NmP.of{n:Net}(h:qbb n=0):NmP n:=by
 have hv:=(VNet.of h).small;unfold qbb at h;obtain⟨h1,h⟩:=qn0 (by decide) h
 obtain⟨h2,h⟩:=qn0 (by decide) h
 cases h3:twB n with
 | true=>rw[h3] at h; cases h
 | false=>
  unfold formB at h2;have h2:=zm.1 h2;unfold twB at h3;rw[zZ1,zL1] at h3;have h3:=h3.1;have f:∀ {A:Type} (l:List A) (g:A->Str),l.map g∈nmsOf n->(∀x∈l,nameB (g x)=true)/\(l.map g).Nodup:=fun l g hm=>
   ⟨fun x hx=>zm.1 (h2 _ hm) _ (zS.2 ⟨x,hx,rfl⟩),qE8 (zJ.2 (h3 _ hm))⟩
  have a1:=f n.2.1 (·.1) (by unfold nmsOf; simp)
  have a2:=f n.2.2.1 (·.1) (by unfold nmsOf; simp)
  have a3:=f n.2.2.2.1 (·.1) (by unfold nmsOf; simp)
  have g:∀ {A:Type} (l:List A) (g:A->Str) (d:A),g d=[]->(∀x∈l,nameB (g x)=true)->∀i:Nat,(g (l.getD i d)).length<=1000:=fun l g d hd hl i=>by
   by_cases hi:i<l.length
   ·exact zG (qna (hl _ (gmem hi))) (by decide)
   ·rw[zh,zl1 (by omega)]
    show(g d).length<=_;rw[hd]; exact zu1 _
  have b1:=hv.sg; have b2:=hv.po; have b3:=hv.st;exact⟨⟨by omega,by omega,by omega,fun i=>g _ (·.1) sg0 rfl a1.1 _,fun i=>g _ (·.1) po0 rfl a2.1 _,fun i=>g _ (·.1) sta0 rfl a3.1 _⟩,a1.1,a2.1,a3.1,a1.2,a2.2,a3.2⟩
theorem qu0(s:Str):Ac.nameP s=nameB s:=zh2 ((Ac.name_eq s).symm.trans (qsu s))
/-! ### Numbers of a record that has a line -/
theorem ix_sm{i:Int}{n:Nat}(hn:n<=2000)(h:ixB i n=true):smI i=true:=by
 have:=ixB_t h;unfold smI;rw[dec_t (by omega),dec_t (by omega)]; rfl
theorem qu1{n:Net}(hn:NB n){r:Rec}(h:recB n r=true):RcI r:=by
 have z:i64P 0:=⟨by decide,by decide⟩
 have hno:noB r.2.2.1=true->r.2.2.1.2.1=0/\r.2.2.1.2.2.1=0/\r.2.2.1.2.2.2.2.2.1.length=0:=fun h=>by
  unfold noB at h;simp only[z8,zj] at h;exact⟨h.2.1,h.2.2.1,h.2.2.2.2.2.2⟩
 have hne:noE r.2.2.2=true->r.2.2.2.1=[]/\r.2.2.2.2.1=0/\r.2.2.2.2.2=0:=fun h=>by
  unfold noE at h;simpa only[z8,zj] using h
 unfold recB at h;split at h
 ·simp only[z8,zj,zm] at h;obtain⟨⟨h1,h2⟩,h3,h4,h5⟩:=h;obtain⟨a1,a2,a3⟩:=hno h1;obtain⟨b1,b2,b3⟩:=hne h2;exact⟨by omega,fun x hx=>qju (h5 x hx),by rw[a1]; exact z,by rw[a2]; exact z,by omega,by rw[b1]; decide,by rw[b2]; exact z,by rw[b3]; exact z⟩
 split at h
 ·simp only[z8,zj] at h;obtain⟨⟨h1,h2⟩,h3⟩:=h;obtain⟨b1,b2,b3⟩:=hne h2;have hv:∀x∈r.2.1,i64P x:=fun x hx=>by rw[zI1.1 h1] at hx; cases hx
  unfold stepB at h3;simp only[z8,zd1,zj] at h3;obtain⟨⟨_,h4⟩,h5⟩:=h3;have hsp:=hn.s; have hpp:=hn.p; have hap:=hn.a;have hh:r.2.2.1.1≠5->r.2.2.1.2.2.2.2.2.1.length<=100000:=fun h=>by
   have:=h4.resolve_left h;unfold bareB at this;simp only[z8,zj] at this;omega
  have key:i64P r.2.2.1.2.1/\i64P r.2.2.1.2.2.1/\r.2.2.1.2.2.2.2.2.1.length<=100000:=by
   unfold qhf at h5;split at h5
   ·simp only[z8,zj] at h5;exact⟨qju h5.2.1,by rw[h5.2.2]; exact z,hh (by omega)⟩
   split at h5
   ·simp only[z8,zj] at h5;exact⟨qju (ix_sm (by omega) h5.1),by rw[h5.2]; exact z,hh (by omega)⟩
   split at h5
   ·unfold flowB at h5;simp only[z8,zj] at h5;exact⟨by rw[h5.2.1]; exact z,qju h5.1,by omega⟩
   split at h5
   ·simp only[z8,zj] at h5;exact⟨by rw[h5.2]; exact z,qju h5.1,hh (by omega)⟩
   ·cases h5
  exact⟨by omega,hv,key.1,key.2.1,key.2.2,by rw[b1]; decide,by rw[b2]; exact z,by rw[b3]; exact z⟩
 split at h
 ·simp only[z8,zj] at h;obtain⟨⟨h1,h2⟩,h3⟩:=h;obtain⟨a1,a2,a3⟩:=hno h2;unfold entB at h3;simp only[z8] at h3;have h4:=ixB_t h3.1;have h5:=h3.2.1;rw[qu0] at h5;have h6:=qna h5;exact⟨by omega,fun x hx=>(by rw[zI1.1 h1] at hx; cases hx),by rw[a1]; exact z,by rw[a2]; exact z,by omega,by omega,⟨by omega,by omega⟩,qju h3.2.2⟩
 ·cases h
/-! ### The reference -/
theorem rnoB(p:Pth):noB (0,0,0,p)=(decide (p.1=0)&&(decide (p.2.1=0)&&(decide (p.2.2.2=0)&&decide (p.2.2.1.length=0)))):=rfl
theorem qu2(s:Stp):qjX s=some (noB (0,0,0,s.2.2.2)):=ok_eq (Ok.eq (rsame0 (0,0,0,s.2.2.2)) (.ret rfl))
theorem qu3(s:Stp)(h:¬s.1=5):preB s=noB (0,0,0,s.2.2.2):=by
 rw[rnoB];unfold preB bareB;rw[dec_f h];generalize decide (s.2.2.2.1=0)=a;generalize decide (s.2.2.2.2.1=0)=b;generalize decide (s.2.2.2.2.2.2=0)=c;generalize decide (s.2.2.2.2.2.1.length=0)=d;cases a <;> cases b <;> cases c <;> cases d <;> rfl
theorem qmz(a b:Str):joinS [a,b]=a++32::b:=by rw[qbt,qj7]
theorem bB1:∀a b v p:Bool,(!a || (!b || (!v || !p)))=!(p&&((a&&b)&&v)):=by decide
theorem bB2:∀a p v:Bool,(!a || (!p || !v))=!(p&&(v&&a)):=by decide
theorem qBf{n:Net}(hn:NB n)(s:Stp):qm4 n s=some (bif stepB n s then joinS (stepV n s) else []):=by
 have hn1:=hn.s; have hn2:=hn.p; have hn3:=hn.a;have e0:stepB n s=(preB s&&qhf n s):=rfl;rw[e0];refine ok_eq ?_
 unfold qm4;refine Ok.eq (a:=decide (s.1=1) || decide (s.1=2)) (by cases decide (s.1=1) <;> rfl) ?_
 refine Ok.bif (fun h12=>?_) fun h12=>?_
 ·have hk:s.1=1\/s.1=2:=by simpa using h12
  rw[qu3 s (by omega)]
  refine Ok.eq (a:=!(noB (0,0,0,s.2.2.2)&&((decide (0<=s.2.1)&&decide (s.2.1<((n.2.1.length+n.2.2.1.length:Nat):Int)))&&decide (s.2.2.1=0)))) ?_ ?_
  ·rw[<-bB1,dlt_n s.2.1 0,show(!decide (s.2.1<((n.2.1.length+n.2.2.1.length:Nat):Int)))=decide (((n.2.1.length+n.2.2.1.length:Nat):Int)<=s.2.1) from(dle_n _ _).symm]
   refine qd6 (ok_eq (Ok.eq (a:=((n.2.1.length+n.2.2.1.length:Nat):Int)) ?_ ⟨_,qd6 (qd6 (ok_eq (Ok.eq (qu2 s) (.ret rfl)))),rfl⟩))
   exact congrArg some ((wi (n:=(n.2.1.length:Int)+(n.2.2.1.length:Int)) (by omega)).trans (by omega))
  have e1:qhf n s=((decide (0<=s.2.1)&&decide (s.2.1<((n.2.1.length+n.2.2.1.length:Nat):Int)))&&decide (s.2.2.1=0)):=by
   unfold qhf;rw[if_pos hk];show(ixB s.2.1 (n.2.1.length+n.2.2.1.length)&&(smI s.2.1&&decide (s.2.2.1=0)))=(ixB s.2.1 (n.2.1.length+n.2.2.1.length)&&decide (s.2.2.1=0));cases hb:ixB s.2.1 (n.2.1.length+n.2.2.1.length)
   ·rfl
   ·rw[ix_sm (by omega) hb]; rfl
  rw[<-e1];cases hB:(noB (0,0,0,s.2.2.2)&&qhf n s)
  ·exact .ret rfl
  rw[e1] at hB;simp only[z8,zj] at hB;show Ok (gd _ _) _;have hl:=qj5 (n:=s.2.1) ⟨by omega,by omega⟩
  refine Ok.gd (qae.2 (by rcases hk with h | h <;> rw[h] <;> decide)) (Ok.eq (qj6 ⟨by omega,by omega⟩) (Ok.gd (ble_t ?_) (.ret ?_)))
  ·rcases hk with h | h <;> rw[h]
   ·show 5+(Lib.itoa s.2.1).length<=9223372036854775807; omega
   ·show 6+(Lib.itoa s.2.1).length<=9223372036854775807; omega
  ·unfold stepV;rcases hk with h | h
   ·rw[if_pos h,h]; exact(qmz cOpen (Lib.itoa s.2.1)).symm
   ·rw[if_neg (by omega),if_pos h,h]; exact(qmz qv8 (Lib.itoa s.2.1)).symm
 have hk:¬(s.1=1\/s.1=2):=by simpa using h12
 refine Ok.eq (a:=decide (s.1=3) || decide (s.1=4)) (by cases decide (s.1=3) <;> rfl) ?_
 refine Ok.bif (fun h34=>?_) fun h34=>?_
 ·have hk3:s.1=3\/s.1=4:=by simpa using h34
  rw[qu3 s (by omega)]
  refine Ok.eq (a:=!(noB (0,0,0,s.2.2.2)&&((decide (0<=s.2.1)&&decide (s.2.1<(n.2.2.2.1.length:Int)))&&decide (s.2.2.1=0)))) ?_ ?_
  ·rw[<-bB1,dlt_n s.2.1 0,show(!decide (s.2.1<(n.2.2.2.1.length:Int)))=decide ((n.2.2.2.1.length:Int)<=s.2.1) from(dle_n _ _).symm]
   exact qd6 (qd6 (qd6 (ok_eq (Ok.eq (qu2 s) (.ret rfl)))))
  have e1:qhf n s=((decide (0<=s.2.1)&&decide (s.2.1<(n.2.2.2.1.length:Int)))&&decide (s.2.2.1=0)):=by
   unfold qhf;rw[if_neg hk,if_pos hk3]; rfl
  rw[<-e1];cases hB:(noB (0,0,0,s.2.2.2)&&qhf n s)
  ·exact .ret rfl
  rw[e1] at hB;simp only[z8,zj] at hB;show Ok (gd _ _) _;have hp:(n.2.2.2.1.getD s.2.1.toNat ([],0,0,0,0)).1.length<=1000:=hn.an _;have hb:ixB s.2.1 n.2.2.2.1.length=true:=by unfold ixB; rw[dec_t hB.2.1.1,dec_t hB.2.1.2]; rfl
  rw[wi (by omega)]
  refine Ok.gd (qae.2 (by rcases hk3 with h | h <;> rw[h] <;> decide)) (Ok.gd (qsH hb) (Ok.gd (ble_t ?_) (.ret ?_)))
  ·rcases hk3 with h | h <;> rw[h]
   ·show 6+_<=_; omega
   ·show 5+_<=_; omega
  ·unfold stepV staV;rw[hb];rcases hk3 with h | h
   ·rw[if_neg (by omega),if_neg (by omega),if_pos h,h]; exact(qmz qsI (staN n s.2.1)).symm
   ·rw[if_neg (by omega),if_neg (by omega),if_neg (by omega),if_pos h,h]; exact(qmz cStop (staN n s.2.1)).symm
 have hk3:¬(s.1=3\/s.1=4):=by simpa using h34
 unfold qhf stepV;rw[if_neg hk,if_neg hk3,if_neg (show ¬s.1=1 by omega),if_neg (show ¬s.1=2 by omega),if_neg (show ¬s.1=3 by omega),if_neg (show ¬s.1=4 by omega)]
 refine Ok.bif (fun h6=>?_) fun h6=>?_
 ·have h6:=zi h6;rw[if_neg (show ¬s.1=5 by omega),if_neg (show ¬s.1=5 by omega),if_pos h6,if_pos h6,qu3 s (by omega)]
  refine Ok.eq (a:=!(noB (0,0,0,s.2.2.2)&&(smI s.2.2.1&&decide (s.2.1=0)))) ?_ ?_
  ·rw[<-bB2];exact qd6 (ok_eq (Ok.eq (qu2 s) ⟨_,qd6 (ok_eq (Ok.eq (qpR _) (.ret rfl))),rfl⟩))
  cases hB:(noB (0,0,0,s.2.2.2)&&(smI s.2.2.1&&decide (s.2.1=0)))
  ·exact .ret rfl
  simp only[z8] at hB;have hl:=qdy hB.2.1;show Ok ((qbI _).bind _) _;refine Ok.eq (qj6 (qju hB.2.1)) (Ok.gd (ble_t ?_) (.ret (qmz cWait (Lib.itoa s.2.2.1)).symm))
  show 5+_<=_; omega
 have h6:=zN h6;rw[if_neg h6,if_neg h6];refine Ok.bif (fun h5=>?_) fun h5=>?_
 ·have h5:=zi h5;rw[if_pos h5,if_pos h5];refine Ok.eq (qBe hn s) (.ret ?_)
  unfold preB;rw[dec_t h5,Bool.true_or,zv2]
 have h5:=zN h5;rw[if_neg h5,z72];exact .ret rfl
end Go.Proofs.YtmdijohmddokhaaGreatDoor
namespace Go.Proofs.YtmdijohmddokhaaGreatDoor
open Go Go.Sq
set_option linter.unusedVariables false
theorem bB3:∀a b m s:Bool,(!a || (!b || (!m || !s)))=!((a&&b)&&(m&&s)):=by decide
theorem qy3(e:Ent3):qkJ e=some (bif entB e then joinS (entV e) else []):=by
 refine ok_eq ?_
 unfold qkJ;have ei:ixB (e.2.1-1) 4=(decide (1<=e.2.1)&&decide (e.2.1<=4)):=by
  unfold ixB;rw[show decide (0<=e.2.1-1)=decide (1<=e.2.1) from zv1.2 (by omega),show decide (e.2.1-1<((4:Nat):Int))=decide (e.2.1<=4) from zv1.2 (by omega)]
 have e1:entB e=((decide (1<=e.2.1)&&decide (e.2.1<=4))&&(Ac.nameP e.1&&smI e.2.2)):=by unfold entB; rw[ei]
 refine Ok.eq (a:=!entB e) ?_ ?_
 ·rw[e1,<-bB3,dlt_n e.2.1 1,dlt_n 4 e.2.1];exact qd6 (qd6 (ok_eq (Ok.eq (Ac.rname_eq e.1) ⟨_,qd6 (ok_eq (Ok.eq (qpR _) (.ret rfl))),rfl⟩)))
 cases hB:entB e
 ·exact .ret rfl
 unfold entB at hB;simp only[z8] at hB;obtain⟨hb,hm,hs⟩:=hB;have hi:=ixB_t hb;rw[qu0] at hm;have hn:=qna hm;have hl:=qdy hs;have hk:(kindL.getD e.2.1.toNat []).length<=9:=by
  have hm:∀x∈kindL,x.length<=9:=by decide
  exact hm _ (gmem (by simp; omega))
 rw[zf,zb];refine Ok.eq (a:=kindL) rfl (Ok.gd (qae.2 (by simp; omega)) (Ok.gd (ble_t ?_) (Ok.gd (ble_t ?_) (Ok.gd (ble_t ?_) (Ok.gd (ble_t ?_) (Ok.eq (qj6 (qju hs)) (Ok.gd (ble_t ?_) (.ret ?_))))))))
 ·simp only[zg,zx]; omega
 ·simp only[zd,zg,zx]; omega
 ·simp only[zd,zg,zx]; omega
 ·simp only[zd,zg,zx]; omega
 ·simp only[zd,zg,zx]; omega
 ·unfold entV;rw[hb];show _=joinS [qlm,kindL.getD e.2.1.toNat [],e.1,Lib.itoa e.2.2];rw[qbt,qbt,qbt,qj7];simp only[zu,zj1,zC]
theorem qCG{a:Str}(h:a≠[]):∀r:List Str,joinS (a::r)≠[]
 | []=>by rw[qj7]; exact h
 | b::r=>by rw[qbt]; simp
theorem qEp{n:Net}{r:Rec}(h:recB n r=true):∃c w,recV n r=c::w/\c≠[]:=by
 unfold recB at h;unfold recV;split at h
 ·rename_i h1;rw[if_pos h1];exact⟨_,_,rfl,by decide⟩
 rename_i h1;rw[if_neg h1];split at h
 ·rename_i h2;rw[if_pos h2];simp only[z8] at h;have h:=h.2;unfold stepB qhf at h;unfold stepV;split
  ·exact⟨_,_,rfl,by decide⟩
  split
  ·exact⟨_,_,rfl,by decide⟩
  split
  ·exact⟨_,_,rfl,by decide⟩
  split
  ·exact⟨_,_,rfl,by decide⟩
  split
  ·exact⟨_,_,rfl,by decide⟩
  split
  ·exact⟨_,_,rfl,by decide⟩
  ·rw[if_neg (by omega),if_neg (by omega),if_neg (by assumption),if_neg (by assumption),z72] at h
   cases h
 rename_i h2;rw[if_neg h2];split at h
 ·rename_i h3;rw[if_pos h3];exact⟨_,_,rfl,by decide⟩
 ·cases h
theorem qBg{n:Net}(hn:NB n){r:Rec}(hr:RcI r):(joinS (recV n r)).length<=100000000000:=by
 have hz:=qBd hn hr;have h3:=qw8 hz.x;have h4:=quV (recV n r);have h5:(recV n r).length*100000<=200000*100000:=zA _ hz.l;have:=hz.l;omega
def fmtS(n:Net)(r:Rec):Str×Int:=bif recB n r then(joinS (recV n r)++[10],0) else([],28)
theorem qy4{n:Net}(h0:qbb n=0)(r:Rec):qjb n r=some (fmtS n r):=by
 have hn:=(NmP.of h0).nb;refine ok_eq ?_
 unfold qjb;refine Ok.eq (qiI n) ?_
 rw[dec_t h0];show Ok (Option.bind _ _) _;refine Ok.eq (a:=bif recB n r then joinS (recV n r) else []) ?_ ?_
 ·by_cases h1:r.1=1
  ·rw[dec_t h1,za];exact ok_eq (Ok.eq (qEo h1 n) (.ret rfl))
  rw[dec_f h1,zb];unfold recB recV;rw[if_neg h1,if_neg h1];refine ok_eq (Ok.eq (a:=_) (?_:_=some _) (.ret rfl))
  by_cases h2:r.1=2
  ·rw[dec_t h2,za,if_pos h2,if_pos h2,dlen0];refine ok_eq (Ok.eq (qkN rfl) (Ok.eq (a:=_) (?_:_=some _) (.ret rfl)))
   show(bif decide (r.2.1.length=0)&&noE r.2.2.2 then _ else _)=_;cases(decide (r.2.1.length=0)&&noE r.2.2.2)
   ·rfl
   ·exact ok_eq (Ok.eq (qBf hn r.2.2.1) (.ret rfl))
  rw[dec_f h2,zb,if_neg h2,if_neg h2];refine ok_eq (Ok.eq (a:=_) (?_:_=some _) (.ret rfl))
  by_cases h3:r.1=3
  ·rw[dec_t h3,za,if_pos h3,if_pos h3,dlen0];refine ok_eq (Ok.eq (qkN (ok_eq (Ok.eq (rsame0 r.2.2.1) (.ret rfl)))) (Ok.eq (a:=_) (?_:_=some _) (.ret rfl)))
   cases(decide (r.2.1.length=0)&&noB r.2.2.1)
   ·rfl
   ·exact ok_eq (Ok.eq (qy3 r.2.2.2) (.ret rfl))
  rw[dec_f h3,zb,if_neg h3,if_neg h3]; rfl
 ·unfold fmtS;cases hB:recB n r
  ·exact .ret rfl
  ·obtain⟨c,w,e,hc⟩:=qEp hB;have hl:=qBg hn (qu1 hn hB);have hne:joinS (recV n r)≠[]:=by rw[e]; exact qCG hc w
   show Ok (bif decide (joinS (recV n r)=[]) then _ else _) _;rw[dec_f hne];exact Ok.gd (ble_t (by show(joinS (recV n r)).length+1<=_; omega)) (.ret rfl)
theorem qBh{n:Net}(h0:qbb n=0){r:Rec}(hr:RcI r):qeO n r=some (fmtS n r):=by
 have hn:=(NmP.of h0).nb;refine ok_eq ?_
 unfold qeO fmtS;refine Ok.eq (qfl n) ?_
 rw[dec_t h0];refine Ok.eq (qyd hn hr) ?_
 cases hB:recB n r
 ·exact .ret rfl
 ·have hl:=qBg hn hr;exact Ok.gd (ble_t (by show(joinS (recV n r)).length+1<=_; omega)) (.ret rfl)
end Go.Proofs.YtmdijohmddokhaaGreatDoor
