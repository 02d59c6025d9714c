/- The second engine, part D: what operations on numbers, Bools and strings make of data. No condition. -/
import Derived.Test.YtmdijohmddokhaaGreatDoorSqC
namespace Go.Sq
open Go Go.RowKit
structure TI where
 t:TypeId
 desc:TypeDesc
 size:Nat
 bytes:Nat
 zero:Value
 τ:Ty
 eq:Bool
structure TI.ok(P:Program)(i:TI):Prop where
 und:P.underlying i.t=some i.desc
 inf:(P.info? i.t).map (fun x=>(x.size,x.bytes,x.zero))=some (i.size,i.bytes,some i.zero)
 eqs:i.eq=true->P.eqGuardType P.depth i.t=false/\P.stoodInHeld i.t=false
def Tys(P:Program):List TI->Prop
 | []=>True
 | i::r=>i.ok P/\Tys P r
def look:List TI->TypeId->Option TI
 | [],_=>none
 | i::r,t=>bif Nat.beq i.t t then some i else look r t
theorem qau{P:Program}:∀ {Γ:List TI} {t:TypeId} {i:TI},Tys P Γ->look Γ t=some i->i.ok P/\i.t=t
 | [],_,_,_,h=>by cases h
 | j::r,t,i,⟨h0,h1⟩,h=>by
  have h':(bif Nat.beq j.t t then some j else look r t)=some i:=h;cases e:Nat.beq j.t t with
  | true=>rw[e] at h'; injection h' with h'; subst h'; exact⟨h0,zc e⟩
  | false=>rw[e] at h'; exact qau h1 h'
theorem TI.ok.info{P:Program}{i:TI}(h:i.ok P):∃x,P.info? i.t=some x/\x.size=i.size/\x.bytes=i.bytes/\x.zero=some i.zero:=by
 have h2:=h.inf;cases hx:P.info? i.t with
 | none=>rw[hx] at h2; cases h2
 | some x=>rw[hx] at h2; injection h2 with h2; injection h2 with h3 h4; injection h4 with h4 h5; exact⟨x,rfl,h3,h4,h5⟩
def SV.int?:SV->Option (IntKind×Int)
 | .v (.int k) n=>some (k,n)
 | _=>none
def SV.bool?:SV->Option Bool
 | .v .bool b=>some b
 | _=>none
def SV.str?:SV->Option (List UInt8)
 | .v .str l=>some l
 | _=>none
def SV.err?:SV->Option Bool
 | .v .err b=>some b
 | _=>none
def SV.nilI:SV->Bool
 | .raw .nilIface=>true
 | _=>false
section
variable {P:Program} {F:Nat->Prop} {w:World} {ρ:Env} {s:SV} {u:Value}
theorem Den.int{k:IntKind}{n:Int}(h:Den P F w ρ s u)(e:s.int? = some (k,n)):u=.int k n:=by
 cases h with
 | v h=>
  rename_i τ x;cases τ <;> simp only[SV.int?] at e <;> first | (cases e; done) | (injection e with e; injection e with e1 e2; subst e1 e2; obtain⟨cs,h1,h2⟩:=h; cases h1; exact h2)
 | _=>simp only[SV.int?] at e; cases e
theorem Den.bool{b:Bool}(h:Den P F w ρ s u)(e:s.bool? = some b):u=.bool b:=by
 cases h with
 | v h=>
  rename_i τ x;cases τ <;> simp only[SV.bool?] at e <;> first | (cases e; done) | (injection e with e; subst e; obtain⟨cs,h1,h2⟩:=h; cases h1; exact h2)
 | _=>simp only[SV.bool?] at e; cases e
theorem Den.str{l:List UInt8}(h:Den P F w ρ s u)(e:s.str? = some l):u=.string ⟨⟨l⟩⟩:=by
 cases h with
 | v h=>
  rename_i τ x;cases τ <;> simp only[SV.str?] at e <;> first | (cases e; done) | (injection e with e; subst e; obtain⟨cs,h1,h2⟩:=h; cases h1; exact h2)
 | _=>simp only[SV.str?] at e; cases e
theorem Den.err{b:Bool}(h:Den P F w ρ s u)(e:s.err? = some b):if b=true then ∃t v,u=.iface t v else u=.nilIface:=by
 cases h with
 | v h=>
  rename_i τ x;cases τ <;> simp only[SV.err?] at e <;> first | (cases e; done) | (injection e with e; subst e; obtain⟨cs,⟨v,rfl,_,h1⟩,h2⟩:=h; cases h2; exact h1)
 | _=>simp only[SV.err?] at e; cases e
theorem Den.nilI(h:Den P F w ρ s u)(e:s.nilI=true):u=.nilIface:=by
 cases h with
 | raw h=>cases u <;> first | rfl | cases e
 | _=>cases e
theorem Den.ofInt(k:IntKind)(n:Int):Den P F w ρ (.v (.int k) n) (.int k n):=.v ⟨[.int k n],rfl,rfl⟩
theorem Den.ofBool(b:Bool):Den P F w ρ (.v .bool b) (.bool b):=.v ⟨[.bool b],rfl,rfl⟩
theorem Den.ofStr(l:List UInt8):Den P F w ρ (.v .str l) (.string ⟨⟨l⟩⟩):=.v ⟨[.string ⟨⟨l⟩⟩],rfl,rfl⟩
end
/-! ### Binary operations -/
def i64(k:IntKind)(n:Int):SV:=.v (.int k) n
def shAmt(k:IntKind)(n:Int):Nat:=min n.toNat k.bits
def binI(op:BinOp)(k:IntKind)(m n:Int):Option (Bool×SV):=
 match op with
 | .add=>some (true,.v (.int k) (k.wrap (m+n)))
 | .sub=>some (true,.v (.int k) (k.wrap (m-n)))
 | .mul=>some (true,.v (.int k) (k.wrap (m*n)))
 | .quo=>some (!decide (n=0),.v (.int k) (k.wrap (m.tdiv n)))
 | .rem=>some (!decide (n=0),.v (.int k) (m.tmod n))
 | .and=>some (true,.v (.int k) (k.wrap (BitVec.ofInt k.bits m&&&BitVec.ofInt k.bits n).toNat))
 | .or=>some (true,.v (.int k) (k.wrap (BitVec.ofInt k.bits m|||BitVec.ofInt k.bits n).toNat))
 | .xor=>some (true,.v (.int k) (k.wrap (BitVec.ofInt k.bits m^^^BitVec.ofInt k.bits n).toNat))
 | .andNot=>some (true,.v (.int k) (k.wrap (BitVec.ofInt k.bits m &&& ~~~BitVec.ofInt k.bits n).toNat))
 | .lss=>some (true,.v .bool (decide (m<n)))
 | .leq=>some (true,.v .bool (decide (m<=n)))
 | .gtr=>some (true,.v .bool (decide (n<m)))
 | .geq=>some (true,.v .bool (decide (n<=m)))
 | .eql=>some (true,.v .bool (decide (m=n)))
 | .neq=>some (true,.v .bool (!decide (m=n)))
 | _=>none
def binSh(op:BinOp)(k:IntKind)(m n:Int):Option (Bool×SV):=
 match op with
 | .shl=>some (!decide (n<0),.v (.int k) (k.wrap (m*2^shAmt k n)))
 | .shr=>some (!decide (n<0),.v (.int k) (m.fdiv (2^shAmt k n)))
 | _=>none
def binS(op:BinOp)(x y:List UInt8):Option (Bool×SV):=
 match op with
 | .add=>some (Nat.ble (x.length+y.length) 9223372036854775807,.v .str (x++y))
 | .eql=>some (true,.v .bool (decide (x=y)))
 | .neq=>some (true,.v .bool (!decide (x=y)))
 | .lss=>some (true,.v .bool (Op.bytesLess x y))
 | .leq=>some (true,.v .bool (Op.bytesLess x y || decide (x=y)))
 | .gtr=>some (true,.v .bool (!(Op.bytesLess x y || decide (x=y))))
 | .geq=>some (true,.v .bool (!Op.bytesLess x y))
 | _=>none
def qzb:BinOp->Bool
 | .shl | .shr=>true
 | _=>false
section
variable {P:Program} {F:Nat->Prop} {w:World} {ρ:Env}
theorem qBt{op:BinOp}{t:TypeId}{k:IntKind}{m n:Int}{g:Bool}{s:SV}(h:binI op k m n=some (g,s))(hg:g=true)(X Y:Operand):
  ∃r,(do eqGuard op t X Y (.int k m) (.int k n); binOp op t (.int k m) (.int k n)).run P w=.ok r w/\Den P F w ρ s r:=by
 subst hg;cases op <;> simp only[binI] at h <;> first | (cases h; done) | (injection h with h; injection h with h1 h2; subst h2)
 case quo=>
  have h1':n≠0:=by intro e; subst e; simp at h1
  exact⟨_,by simp[eqGuard,binOp,Op.intDiv,h1'],.ofInt _ _⟩
 case rem=>
  have h1':n≠0:=by intro e; subst e; simp at h1
  exact⟨_,by simp[eqGuard,binOp,Op.intDiv,h1'],.ofInt _ _⟩
 all_goals first
  | (refine⟨_,?_,.ofInt _ _⟩; simp[eqGuard,binOp,Op.intArith]; done)
  | (refine⟨_,?_,.ofBool _⟩; simp[eqGuard,binOp,Op.intCmp]; done)
  | (refine⟨_,?_,.ofBool _⟩; simp only[eqGuard_at_int,binOp,Op.intCmp,ne_eq,not_true_eq_false,if_false]; rfl)
  | (refine⟨_,?_,.ofInt _ _⟩; simp only[eqGuard,binOp,ne_eq,not_true_eq_false,if_false]; rfl)
theorem qzc{op:BinOp}{t:TypeId}{k k':IntKind}{m n:Int}{g:Bool}{s:SV}(h:binSh op k m n=some (g,s))(hg:g=true)(X Y:Operand):
  ∃r,(do eqGuard op t X Y (.int k m) (.int k' n); binOp op t (.int k m) (.int k' n)).run P w=.ok r w/\Den P F w ρ s r:=by
 subst hg;cases op <;> simp only[binSh] at h <;> first | (cases h; done) | (injection h with h; injection h with h1 h2; subst h2)
 all_goals
  have h1':¬n<0:=by simpa using h1
  exact⟨_,by simp[eqGuard,binOp,Op.shift,h1']; rfl,.ofInt _ _⟩
theorem qrd(l:List UInt8):(⟨⟨l⟩⟩:ByteArray).toList=l:=by rw[ByteArray.toList_eq]
theorem qzd(x y:List UInt8):(⟨⟨x⟩⟩:ByteArray)++⟨⟨y⟩⟩=⟨⟨x++y⟩⟩:=by
 apply ByteArray.ext;simp[ByteArray.data_append]
theorem qwg(op:BinOp)(t:TypeId)(X Y:Operand)(a b:ByteArray):eqGuard op t X Y (.string a) (.string b)=pure ():=by
 cases op <;> simp[eqGuard]
theorem qBu{op:BinOp}{t:TypeId}{x y:List UInt8}{g:Bool}{s:SV}(h:binS op x y=some (g,s))(hg:g=true)(X Y:Operand):
  ∃r,(do eqGuard op t X Y (.string ⟨⟨x⟩⟩) (.string ⟨⟨y⟩⟩); binOp op t (.string ⟨⟨x⟩⟩) (.string ⟨⟨y⟩⟩)).run P w=.ok r w/\Den P F w ρ s r:=by
 subst hg;simp only[qwg];have heq:(x==y)=decide (x=y):=by rw[zU]; simp
 cases op <;> simp only[binS] at h <;> first | (cases h; done) | (injection h with h; injection h with h1 h2; subst h2)
 case add=>
  have h1':=zH h1;refine⟨.string ⟨⟨x++y⟩⟩,?_,.ofStr _⟩
  have hs:¬(((⟨⟨x⟩⟩:ByteArray).size+(⟨⟨y⟩⟩:ByteArray).size:Nat):Int)>IntKind.i64.max:=by
   show ¬((x.length+y.length:Nat):Int)>9223372036854775807;omega
  simp only[binOp,Op.stringOp,if_neg hs,qzd,zl,zo,ze]
 all_goals exact⟨_,by simp only[binOp,Op.stringOp,qrd,heq,zl,zo,ze],.ofBool _⟩
end
end Go.Sq
