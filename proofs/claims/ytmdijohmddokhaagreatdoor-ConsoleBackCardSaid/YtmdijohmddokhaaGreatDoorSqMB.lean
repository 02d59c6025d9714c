/- The second engine, part MB: walks through maps; bytes as a string. No condition. -/
import Derived.Test.YtmdijohmddokhaaGreatDoorSqMA
import Derived.Laws.BytesArg
namespace Go.Sq
open Go Go.RowKit Go.MapKept
section
variable {P:Program} {w0:World} {M:Mod} {N:Nat} {F0:Nat->Prop} {ops:Array Oper} {st:St} {Γ:List TI} {rty:TypeId}
variable {F:Nat->Prop} {ρ:Env} {a:Act} {w:World}
/-! ### A map that is only read: an entry, how many there are -/
def qrB(Γ:List TI)(st:St)(t:TypeId)(x ix:Operand)(ok:Bool):Option VR:=match t with
 | 0=>none
 | _+1=>none
theorem qvt(hΓ:Tys P Γ){t:TypeId}{x ix:Operand}{ok:Bool}{r:VR}(h:qrB Γ st t x ix ok=some r):VOk P w0 M N st (.lookup t x ix ok) rty r:=by
 unfold qrB at h;split at h <;> cases h
/-! ### A map of functions that compute -/
def qxp:Value->Bool
 | .nilFunc=>true
 | _=>false
def fmTy(Γ:List TI)(t:TypeId):Option (TI×TI):=
 match look Γ t with
 | some i=>match i.desc with
  | .map kt et=>match look Γ kt,look Γ et with
   | some kj,some ej=>bif keyOk Γ kj&&decide (kj.τ=.str)&&qxp ej.zero then some (kj,ej) else none
   | _,_=>none
  | _=>none
 | none=>none
def fmHas(ks:List (List UInt8))(y:List UInt8):Bool:=ks.any (· == y)
def fmG{ps:List Ty}{r:Ty}(ks:List (List UInt8))(g:HL (.str::ps)->Option r.den)(y:List UInt8):HL ps->Option r.den:=fun x=>bif fmHas ks y then g (y,x) else none
def evFm(Γ:List TI)(st:St)(t:TypeId)(x ix:Operand):Bool->Option VR
 | true=>match st.ev x,(st.ev ix).dat .str with
  | .fmap ps r ks g,some y=>match fmTy Γ t with
   | some _=>some ⟨true,qac x++qac ix,.tup [.fn ps r (fmG ks g y),.b (fmHas ks y)]⟩
   | none=>none
  | _,_=>none
 | false=>none
theorem qDA(hΓ:Tys P Γ){t:TypeId}{x ix:Operand}{ok:Bool}{r:VR}(h:evFm Γ st t x ix ok=some r):VOk P w0 M N st (.lookup t x ix ok) rty r:=by
 cases ok with
 | false=>cases h
 | true=>
  simp only[evFm] at h;split at h
  ·rename_i ps rt ks g y hx hy;split at h
   ·rename_i jj hm;obtain⟨kj,ej⟩:=jj;injection h with h; subst h
    have m:P.underlying t=some (.map kj.t ej.t)/\kj.ok P/\keyOk Γ kj=true/\kj.τ=.str/\qxp ej.zero=true/\ej.ok P:=by
     unfold fmTy at hm;split at hm
     ·rename_i i hl;obtain⟨hi,rfl⟩:=qau hΓ hl;split at hm
      ·rename_i kt et hd;split at hm
       ·rename_i kj' ej' h1 h2;obtain⟨hk',rfl⟩:=qau hΓ h1;obtain⟨he,rfl⟩:=qau hΓ h2;cases hcc:(keyOk Γ kj'&&decide (kj'.τ=.str)&&qxp ej'.zero) with
        | false=>rw[hcc] at hm; cases hm
        | true=>
         rw[hcc] at hm; injection hm with hm; injection hm with e1 e2; subst e1 e2
         simp only[z8,zj] at hcc;exact⟨by rw[hi.und,hd],hk',hcc.1.1,hcc.1.2,hcc.2,he⟩
       ·cases hm
      ·cases hm
     ·cases hm
    obtain⟨m1,m2,m3,m4,m5,m6⟩:=m;intro st' hag F ρ a w hr dst pos af gd;have hxd:=hr.evx hag (fun _ h=>mem_l h) (x:=x)
    have hyd:=qcR hy (hr.evx hag (fun _ h=>mem_r h) (x:=ix))
    rw[hx] at hxd;generalize he:a.eval x=u at hxd;generalize hu0:a.eval ix=uk at hyd;obtain⟨inf,i1,i2,i3,i4⟩:=m6.info;have hz:ej.zero=.nilFunc:=by
     unfold qxp at m5;split at m5
     ·assumption
     ·cases m5
    have fin:∀(z:Value) (bb:Bool),FnVal P F w ps rt (fmG ks g y) z->bb=fmHas ks y->Den P F w ρ (.tup [.fn ps rt (fmG ks g y),.b (fmHas ks y)]) (.tuple #[z,.bool bb]):=by
     intro z bb h1 e2;subst e2;refine .tup (vs:=[_,_]) rfl fun i s u hs hu=>?_
     match i with
     | 0=>simp at hs hu; subst hs hu; exact .fn h1
     | 1=>simp at hs hu; subst hs hu; exact .v ⟨_,rfl,rfl⟩
     | i+2=>simp at hs
    cases hxd with
    | @fmap _ _ _ _ mm es clock vs h1 h2 h3 h4 h5 h6=>
     obtain⟨kt,kd,ks',kb,kz,kτ,ke⟩:=kj;simp only at m4; subst m4;have hkey:uk=.string ⟨⟨y⟩⟩:=by obtain⟨cs,q1,q2⟩:=hyd; cases q1; exact q2
     have hmem:∀e∈es.toList,∃(i:Nat) (k:List UInt8),ks[i]? = some k/\vs[i]? = some e.val/\e.key=.string ⟨⟨k⟩⟩:=by
      intro e hm;have hm2:=h5.mem_iff.1 (zS.2 ⟨e,hm,rfl⟩:(e.key,e.val)∈es.toList.map (fun e=>(e.key,e.val)))
      obtain⟨i,hi⟩:=zp1 hm2;rw[List.getElem?_zip_eq_some,zL] at hi
      obtain⟨k,hk,hk2⟩:=zc1.1 hi.1;exact⟨i,k,hk,hi.2,hk2.symm⟩
     have hks:∀e∈es.toList,∃z,RdV F w .str z e.key:=by
      intro e hm;obtain⟨_,k,_,_,hk⟩:=hmem e hm;exact⟨k,[.string ⟨⟨k⟩⟩],rfl,hk⟩
     have huk:=qvr hΓ m2 m3 hyd;rcases qlz hΓ m2 m3 hyd es.toList hks with⟨f1,f2⟩ | ⟨j,e,f1,f2,f3⟩
     ·have hrun:=qjw (w:=w) m1 i1 i4 huk (.inr ⟨mm,clock,rfl,h2⟩) f1 true;have h0:fmHas ks y=false:=by
       unfold fmHas;rw[zL1];intro k hk hc;have hky:k=y:=eq_of_beq hc;subst hky;obtain⟨i,hi⟩:=zp1 hk;have hil:i<vs.length:=by rw[h4]; exact(zr.1 hi).1
       have hz2:((Value.string ⟨⟨k⟩⟩),vs[i])∈(ks.map fun k=>(Value.string ⟨⟨k⟩⟩)).zip vs:=
        zF (List.getElem?_zip_eq_some.2 ⟨by rw[zL,hi]; rfl,zk hil⟩)
       obtain⟨e0,he0,hq0⟩:=zS.1 (h5.mem_iff.2 hz2);injection hq0 with hq0 _
       exact f2 e0 he0 (by rw[hq0,hkey])
      have hrun':(Instr.lookup t (.map (some mm)) uk true).run P w=.ok (.tuple #[ej.zero,.bool false]) w:=hrun;refine⟨.tuple #[ej.zero,.bool false],by simp only[execOp,he,hu0,hrun',zl,zo,ze],?_⟩
      exact fin _ _ (.inl ⟨hz,fun x=>by unfold fmG; rw[h0]; rfl⟩) h0.symm
     ·have hrun:=qjw (w:=w) m1 i1 i4 huk (.inr ⟨mm,clock,rfl,h2⟩) f1 true;have hrun':(Instr.lookup t (.map (some mm)) uk true).run P w=.ok (.tuple #[e.val,.bool true]) w:=hrun;obtain⟨i,k,k1,k2,k3⟩:=hmem e (zF (by simpa using f2))
      have hy2:k=y:=by
       rw[f3,hkey] at k3;injection k3 with k3; injection k3 with k3; injection k3 with k3; exact k3.symm
      subst hy2;have h0:fmHas ks k=true:=by
       unfold fmHas;rw[zp2];exact⟨k,zF k1,by simp⟩
      refine⟨.tuple #[e.val,.bool true],by simp only[execOp,he,hu0,hrun',zl,zo,ze],?_⟩
      have hg:fmG ks g k=fun x=>g (k,x):=by funext x; unfold fmG; rw[h0]; rfl
      refine fin _ _ ?_ h0.symm
      rw[hg];exact h6 i k e.val k1 k2
   ·cases h
  ·cases h
/-! ### A walk begins; the entry at which it stands -/
def qwF(Γ:List TI)(st:St)(N d:Nat)(t:TypeId)(x:Operand):Option MR:=match d with
 | 0=>none
 | _+1=>none
theorem qyx(hΓ:Tys P Γ){d:Nat}{t:TypeId}{x:Operand}{r:MR}(h:qwF Γ st N d t x=some r):MOk P w0 M N F0 ops st (some d) (.range t x) rty r:=by
 unfold qwF at h;split at h <;> cases h
def qwG(st:St)(x:Operand):Option VR:=match x with
 | .tmp _=>none
 | _=>none
theorem qyy{x:Operand}{r:VR}(h:qwG st x=some r):VOk P w0 M N st (.entry x) rty r:=by
 unfold qwG at h;split at h <;> cases h
/-! ### Bytes as a string -/
def qwH(Γ:List TI)(st:St)(src dst:TypeId)(x:Operand):Option VR:=
 match look Γ src,look Γ dst with
 | some i,some j=>match i.desc,j.desc with
  | .slice e,.string=>match look Γ e with
   | some q=>match q.desc with
    | .int .u8=>match st.ev x with
     | .v (.sl (.int .u8)) l=>some ⟨true,qac x,.v .str (qga l)⟩
     | _=>none
    | _=>none
   | none=>none
  | _,_=>none
 | _,_=>none
theorem qrC:∀(l:List Int) (s:ByteArray),(l.foldl (fun r n=>r.push (UInt8.ofNat n.toNat)) s).data.toList=s.data.toList++qga l
 | [],s=>by simp[qga]
 | n::l,s=>by
  rw[List.foldl_cons,qrC l];simp[qga,ByteArray.push]
theorem qzQ{src dst e:TypeId}(hu:P.underlying src=some (.slice e))(hw:P.underlying e=some (.int .u8))(hv:P.underlying dst=some .string){l:List Int}{u:Value}(h:RdV F w (.sl (.int .u8)) l u):
  ∃b:ByteArray,b.data.toList=qga l/\(convert src dst u).run P w=.ok (.string b) w:=by
 obtain⟨cs,⟨ad,cap,rfl,hc⟩,rfl⟩:=h;cases ad with
 | none=>
  have hl:l=[]:=hc;subst hl;exact⟨ByteArray.empty,rfl,run_convert_bytes_nil w src e hu hw _ _ dst hv⟩
 | some a0=>
  obtain⟨_,_,_,h4⟩:=hc;have hl:(loadCells a0 l.length).run P w=.ok (l.map (Value.int .u8)).toArray w:=by
   have:=zP2 (P:=P) w a0 (l.map (Value.int .u8)) (fun j v hj=>by
    have hjl:j<l.length:=by have:=(zr.1 hj).1; simpa using this
    have hlj:l[j]? = some l[j]:=zk hjl;rw[zL,hlj] at hj;simp only[zf1,zn1] at hj;obtain⟨es,e1,e2⟩:=h4 j l[j] hlj;have e1':es=[.int .u8 l[j]]:=e1;subst e1';have h9:=e2 0 _ rfl;rw[<-hj];have e3:j*(Ty.int .u8).size+0=j:=by simp[Ty.size]
    rw[e3] at h9;exact h9)
   simpa using this
  refine⟨_,?_,(run_convert_bytes_string w src dst e _ _ _ hu hw hv).trans (run_bytesToString w a0 _ _ l hl)⟩
  rw[qrC]; rfl
theorem qyz(hΓ:Tys P Γ){src dst:TypeId}{x:Operand}{r:VR}(h:qwH Γ st src dst x=some r):VOk P w0 M N st (.convert src dst x) rty r:=by
 unfold qwH at h;split at h
 ·rename_i i j hi hj;obtain⟨hi1,hi2⟩:=qau hΓ hi;obtain⟨hj1,hj2⟩:=qau hΓ hj;have hu:=hi1.und;have hv:=hj1.und;rw[hi2] at hu;rw[hj2] at hv;split at h
  ·rename_i e d1 d2;split at h
   ·rename_i q hq;obtain⟨hq1,hq2⟩:=qau hΓ hq;have hw:=hq1.und;rw[hq2] at hw;split at h
    ·rename_i d3;split at h
     ·rename_i l hx;injection h with h; subst h
      rw[d1] at hu;rw[d2] at hv;rw[d3] at hw;intro st' hag F ρ a w hr dst' pos af gd;have hxd:=hr.evx hag (fun _ h=>h) (x:=x)
      rw[hx] at hxd;generalize he:a.eval x=u at hxd;cases hxd with
      | v hd=>
       obtain⟨b,hb,hrun⟩:=qzQ (dst:=dst) hu hw hv hd;refine⟨.string b,?_,.v ⟨[.string b],?_,rfl⟩⟩
       ·simp only[execOp,he,hrun,zl,zo,ze]
       ·show [Value.string b]=[Value.string ⟨⟨qga l⟩⟩];rw[<-hb]
     ·cases h
    ·cases h
   ·cases h
  ·cases h
 ·cases h
/-! ### What of an own array begins at an element; a copy within an array -/
def qzR(Γ:List TI)(st:St)(t:TypeId)(x lo:Operand):Option VR:=
 match st.ev x,(st.ev lo).int? with
 | .own b,some (_,m)=>match st.a b with
  | some (.arr _ e l)=>bif qiL Γ t e.size then some ⟨decide (0<l.length)&&inR m l.length l.length,qac x++(qac lo++[.a b]),.rest b e.size m.toNat l.length⟩ else none
  | _=>none
 | _,_=>none
theorem qzS(hΓ:Tys P Γ){t:TypeId}{x lo:Operand}{r:VR}(h:qzR Γ st t x lo=some r)(hg:r.g=true):VOk P w0 M N st (.slice t x (some lo) none none) rty r:=by
 unfold qzR at h;split at h
 ·rename_i b k m hx hm;split at h
  ·rename_i te e l hA;cases hs:qiL Γ t e.size with
   | false=>rw[hs] at h; cases h
   | true=>
    rw[hs] at h; injection h with h; subst h
    obtain⟨et,hu,hsz⟩:=qf9 hΓ hs;simp only[inR,z8,zj] at hg;intro st' hag F ρ a w hr dst pos af gd;have hxd:=hr.evx hag (fun _ h=>mem_l h) (x:=x)
    have hlo:=(hr.evx hag (fun _ h=>mem_r (mem_l h)) (x:=lo)).int hm
    have hA':st'.a b=some (.arr te e l):=by rw[<-(hag (.a b) (by simp):st.a b=st'.a b)]; exact hA
    rw[hx] at hxd;generalize he:a.eval x=u at hxd;cases hxd with
    | own hρ=>
     obtain⟨u',q1,xs,q2,q3⟩:=hr.mem.arr b _ hA';rw[hρ] at q1; injection q1 with q1; subst q1
     rcases q2.2 with⟨ad,_,h3⟩ | ⟨g,cap,cur,rfl,h6,h7,h8,h9,h10⟩
     ·omega
     ·have hb:=qmC (P:=P) (w:=w) (isS:=true) (n:=l.length) (c:=cap+1) (lo:=some (k,m)) (hi:=none) (by simp only[bdLo,bdHi]; omega) (by simp only[bdHi]; omega) (fun _ _ e=>by injection e with e; injection e with _ e; subst e; omega) (fun _ _ e=>by cases e)
      have hd:Den P F w ρ (.rest b e.size m.toNat l.length) _:=.rest (k:=e.size) (lo:=m.toNat) hρ (by omega) h7
      refine⟨_,?_,hd⟩
      simp only[valOf,zf1,zU1,bdLo,bdHi] at hb;simp only[execOp,he,hlo,zf1,zU1,Instr.sliceAt,Instr.slice,zl,zt hu,ze,hb,hsz,zo];simp[Addr.add];split
      ·rfl
      ·congr 1;split
       ·rename_i h0; rw[h0]
       ·rfl
  ·cases h
 ·cases h
def evPre(Γ:List TI)(st:St)(t:TypeId)(x hi:Operand):Option VR:=
 match st.ev x,(st.ev hi).int? with
 | .own b,some (_,m)=>match st.a b with
  | some (.arr _ e l)=>bif qiL Γ t e.size then some ⟨decide (0<l.length)&&inR 0 m l.length,qac x++(qac hi++[.a b]),.pre b m.toNat l.length⟩ else none
  | _=>none
 | _,_=>none
theorem qBG(hΓ:Tys P Γ){t:TypeId}{x hi:Operand}{r:VR}(h:evPre Γ st t x hi=some r)(hg:r.g=true):VOk P w0 M N st (.slice t x none (some hi) none) rty r:=by
 unfold evPre at h;split at h
 ·rename_i b k m hx hm;split at h
  ·rename_i te e l hA;cases hs:qiL Γ t e.size with
   | false=>rw[hs] at h; cases h
   | true=>
    rw[hs] at h; injection h with h; subst h
    obtain⟨et,hu,hsz⟩:=qf9 hΓ hs;simp only[inR,z8,zj] at hg;intro st' hag F ρ a w hr dst pos af gd;have hxd:=hr.evx hag (fun _ h=>mem_l h) (x:=x)
    have hhi:=(hr.evx hag (fun _ h=>mem_r (mem_l h)) (x:=hi)).int hm
    have hA':st'.a b=some (.arr te e l):=by rw[<-(hag (.a b) (by simp):st.a b=st'.a b)]; exact hA
    rw[hx] at hxd;generalize he:a.eval x=u at hxd;cases hxd with
    | own hρ=>
     obtain⟨u',q1,xs,q2,q3⟩:=hr.mem.arr b _ hA';rw[hρ] at q1; injection q1 with q1; subst q1
     rcases q2.2 with⟨ad,_,h3⟩ | ⟨g,cap,cur,rfl,h6,h7,h8,h9,h10⟩
     ·omega
     ·have hb:=qmC (P:=P) (w:=w) (isS:=true) (n:=l.length) (c:=cap+1) (lo:=none) (hi:=some (k,m)) (by simp only[bdLo,bdHi]; omega) (by simp only[bdHi]; omega) (fun _ _ e=>by cases e) (fun _ _ e=>by injection e with e; injection e with _ e; subst e; omega)
      have hd:Den P F w ρ (.pre b m.toNat l.length) _:=.pre hρ (by omega)
      refine⟨_,?_,hd⟩
      simp only[valOf,zf1,zU1,bdLo,bdHi] at hb;simp only[execOp,he,hhi,zf1,zU1,Instr.sliceAt,Instr.slice,zl,zt hu,ze,hb,hsz,zo];simp[Addr.add]
  ·cases h
 ·cases h
theorem Rel'.rowSet{b g n cap:Nat}{tya:TypeId}{e:Ty}{l l':List e.den}{cur:Array Value}{cs:Array Value}(h:Rel' P w0 M N F ρ st a w)(hA:st.a b=some (.arr tya e l))(hρ:ρ b=some (.slice (some ⟨g,0,none⟩) n (cap+1)))
  (hb:w.heap[g]? = some (.cells cur tya (0,0))) (hob:ObOk F (w.setRow g cs) (.arr tya e l') (.slice (some ⟨g,0,none⟩) n (cap+1))):Rel' P w0 M N F ρ (st.put (.a b (some (.arr tya e l')))) a (w.setRow g cs):=by
 have hp0:st.present b:=.inr (by rw[hA]; simp)
 have hd0:=h.dropA b;have hv0:st.v b=none:=by
  cases hx:st.v b with
  | none=>rfl
  | some x=>
   exfalso;obtain⟨g,arr,h1,_⟩:=h.mem.var b x.1 x.2 hx;rw[hρ] at h1; injection h1 with h1; cases h1
 have hfr:Fr w (fun x=>x=g) (w.setRow g cs):=⟨rfl,rfl,rfl,by simp,fun g' _ hne=>zn2 w g g' _ (fun e=>hne e)⟩
 have hpr:∀b',(st.put (.a b none)).present b'->b'≠b/\st.present b':=by
  intro b' hp;by_cases e:b'=b
  ·subst e;exfalso;rcases hp with hp | hp
   ·exact hp hv0
   ·refine hp ?_
    show(bif Nat.beq b' b' then none else st.a b')=none;simp
  ·refine⟨e,?_⟩
   rcases hp with hp | hp
   ·exact .inl hp
   ·refine .inr ?_
    have hp':(bif Nat.beq b' b then none else st.a b')≠none:=hp;rw[bq e] at hp'; exact hp'
 have hdis:∀b' v x,(st.put (.a b none)).present b'->ρ b'=some v->blkOf v=some x->¬x=g:=by
  intro b' v x hp hv hg hgr;subst hgr;obtain⟨hne,hp'⟩:=hpr b' hp;exact hne (h.mem.sep b' b v _ x hp' hp0 hv hρ hg rfl)
 have hnF:∀x,F x->¬x=g:=fun x hF hg=>by subst hg; exact h.mem.own b _ x hp0 hρ rfl hF
 have h1:=hd0.move (F':=F) hfr hdis hnF (fun _ h=>h) (fun _ h=>.inl h) (fun x hx=>zq1 (h.mem.fb x hx) hfr.size) (fun x hx hlt'=>(h.lo b _ x hp0 hρ (by subst hx; rfl)).resolve_right (by omega))
 have h2:=h1.addA (b:=b) (A:=.arr tya e l') hρ hv0 hob (fun x hg=>⟨fun b' v hne hp hv' hbk=>by
   obtain⟨_,hp'⟩:=hpr b' hp;exact hne (h.mem.sep b' b v _ x hp' hp0 hv' hρ hbk hg),fun hF=>h.mem.own b _ x hp0 hρ hg hF,h.lo b _ x hp0 hρ hg⟩)
 have e:(st.put (.a b none)).put (.a b (some (.arr tya e l')))=st.put (.a b (some (.arr tya e l'))):=by
  show({ st with a:=_ }:St)={ st with a:=_ }
  congr 1;funext x;show(bif Nat.beq x b then _ else bif Nat.beq x b then none else st.a x)=bif Nat.beq x b then _ else st.a x;cases Nat.beq x b <;> rfl
 rwa[e] at h2
def dstOk(N:Nat):Option Nat->Bool
 | some d=>Nat.blt d N
 | none=>true
def dstWr(s:SV):Option Nat->List Wr
 | some d=>[.r d s]
 | none=>[]
def qzT(Γ:List TI)(st:St)(N:Nat)(dst:Option Nat)(t:TypeId)(x y:Operand):Option MR:=match t with
 | 0=>none
 | _+1=>none
theorem qBH{b k lo n:Nat}{u:Value}(h:Den P F w ρ (.rest b k lo n) u):∃g cap,ρ b=some (.slice (some ⟨g,0,none⟩) n cap)/\lo<=n/\n<=cap/\u=.slice (if cap=lo then some ⟨g,0,none⟩ else some ⟨g,lo*k,none⟩) (n-lo) (cap-lo):=by
 cases h with
 | rest h h1 h2=>exact⟨_,_,h,h1,h2,rfl⟩
theorem qn4{i n K q:Nat}(h:i<n)(hq:q<K):i*K+q<n*K:=by
 have:=zA K (show i+1<=n from h)
 rw[z31,zx1] at this; omega
theorem qrD{i n K q:Nat}(hq:q<K):n*K<=i*K+q↔n<=i:=by
 constructor
 ·intro h;refine Nat.le_of_not_lt fun hlt=>?_
  have:=qn4 hlt hq; omega
 ·intro h;have:=zA K h; omega
theorem qzU(hΓ:Tys P Γ){dst:Option Nat}{t t2:TypeId}{x y:Operand}{r:MR}(h:qzT Γ st N dst t x y=some r)(hg:r.g=true):MOk P w0 M N F0 ops st dst (.call { callee:=.builtin .copy,args:=#[x,y],argTypes:=#[t,t2] }) rty r:=by
 unfold qzT at h;split at h <;> cases h
def cpyD{A:Type}(l:List A)(lo:Nat)(y:List A):List A:=l.take lo++(y.take (l.length-lo)++l.drop (lo+min y.length (l.length-lo)))
theorem qtZ{A:Type}(l:List A){lo:Nat}(y:List A)(h:lo<=l.length):(cpyD l lo y).length=l.length:=by
 unfold cpyD;simp only[zd,zn,z01];omega
theorem qt0{A:Type}(l:List A){lo:Nat}(y:List A)(h:lo<=l.length)(i:Nat):(cpyD l lo y)[i]? = if lo<=i/\i<lo+min y.length (l.length-lo) then y[i-lo]? else l[i]?:=by
 unfold cpyD;by_cases h1:i<lo
 ·rw[zR (by rw[zn]; omega),zp,if_pos h1,if_neg (by omega)]
 ·rw[zV (by rw[zn]; omega),zn,z91 h]
  by_cases h2:i<lo+min y.length (l.length-lo)
  ·rw[zR (by rw[zn]; omega),zp,if_pos (by omega),if_pos ⟨by omega,h2⟩]
  ·rw[zV (by rw[zn]; omega),zB,if_neg (by omega)]
   congr 1;rw[zn]; omega
theorem qyA{b g cap lo:Nat}{te t t2 et:TypeId}{e:Ty}{l y:List e.den}{u sv:Value}(hr:Rel' P w0 M N F ρ st a w)(hA:st.a b=some (.arr te e l))(hρ:ρ b=some (.slice (some ⟨g,0,none⟩) l.length cap))(g3:0<l.length)(p1:lo<=l.length)(c3:0<e.size)
  (hu:P.underlying t=some (.slice et)) (hsz:∀w:World,(Go.sizeOf et).run P w=.ok e.size w)
  (hdst:∃ad c,u=.slice (some ad) (l.length-lo) c/\(min y.length (l.length-lo)≠0->ad=⟨g,lo*e.size,none⟩))
  (hsrc:(∃c,sv=.slice none 0 c/\y=[])\/∃(ad:Addr) (c:Nat) (news:List Value),sv=.slice (some ad) y.length c/\news.length=y.length*e.size∧
   (∀q u,news[q]? = some u->w.cell? (ad.add q)=some u/\u.oneCell'=true)/\∀(q:Nat) (x:e.den),y[q]? = some x->RdC F w e x ((news.drop (q*e.size)).take e.size)):
  ∃w',(Builtin.copy_ #[t,t2] rty #[u,sv]).run P w=.ok (.int .i64 (Int.ofNat (min y.length (l.length-lo)))) w'/\Rel' P w0 M N F ρ (st.put (.a b (some (.arr te e (cpyD l lo y))))) a w':=by
 obtain⟨u',q1,xs,q2,q3⟩:=hr.mem.arr b _ hA;rw[hρ] at q1; injection q1 with q1
 rcases q2.2 with⟨ad,h3,h4⟩ | ⟨g0,cap0,cur,h5,h6,h7,h8,h9,h10⟩
 ·omega
 ·rw[<-q1] at h5;injection h5 with h5a h5b h5c
  injection h5a with h5a; injection h5a with h5a
  rw[<-h5a] at h6;have hxs:=q2.1;obtain⟨K,hK⟩:∃K,e.size=K:=⟨_,rfl⟩;obtain⟨m,hme⟩:∃m,min y.length (l.length-lo)=m:=⟨_,rfl⟩;have hm:m<=l.length-lo/\m<=y.length:=by omega
  -- the cells that come
  obtain⟨news,hnl,hlen,hfc,hone,hel⟩:∃news:List Value,news.length=m*e.size/\(Builtin.lenOf sv).run P w=.ok y.length w/\(Builtin.firstCells e.size m sv).run P w=.ok news.toArray w/\(∀v∈news,v.oneCell'=true)∧
    ∀(q:Nat) (x:e.den),q<m->y[q]? = some x->RdC F w e x ((news.drop (q*e.size)).take e.size):=by
   rcases hsrc with⟨c,rfl,rfl⟩ | ⟨ad,c,news,rfl,n1,n2,n3⟩
   ·have hm0:m=0:=by have:=hm.2; simpa using this
    exact⟨[],by simp[hm0],by simp[Builtin.lenOf],by simp[Builtin.firstCells],by simp,fun q x hq=>by omega⟩
   ·have hmy:m*e.size<=y.length*e.size:=zA _ hm.2;have hnt:(news.take (m*e.size)).length=m*e.size:=by rw[zn,n1]; omega
    refine⟨news.take (m*e.size),hnt,by simp[Builtin.lenOf],?_,fun v hv=>?_,fun q x hq hx=>?_⟩
    ·have hl:=zP2 (P:=P) w ad (news.take (m*e.size)) (fun j v hj=>by
      rw[zp] at hj;split at hj
      ·exact(n2 j v hj).1
      ·cases hj)
     rw[hnt] at hl;simpa[Builtin.firstCells] using hl
    ·obtain⟨p,hp⟩:=zp1 (zj2 hv);exact(n2 p v hp).2
    ·have:=n3 q x hx;have hq1:q*e.size+e.size<=m*e.size:=by rw[<-zY1]; exact zA _ hq
     rw[z42,zF1,z91 (by omega)]
     exact this
  rw[hK] at hxs h9 h10 hsz c3 hdst hnl hfc hel;have a2:(lo+m)*K<=l.length*K:=zA K (by omega)
  have a3:l.length*K<=(cap0+1)*K:=zA K h7;rw[z31] at a2;have hrun:(Builtin.copy_ #[t,t2] rty #[u,sv]).run P w=.ok (.int .i64 (Int.ofNat m)) (w.setRow g (cur.toList.take (lo*K)++news++cur.toList.drop (lo*K+m*K)).toArray):=by
   have hmin:Nat.min y.length (l.length-lo)=m:=hme;obtain⟨ad,c,rfl,had⟩:=hdst;by_cases hm0:m=0
   ·have hn0:news=[]:=zI1.1 (by rw[hnl,hm0]; simp)
    subst hn0;have e9:(cur.toList.take (lo*K)++[]++cur.toList.drop (lo*K+m*K)).toArray=cur:=by rw[hm0]; simp
    rw[e9,setRow_self w g cur te (0,0) h6];have s0:∀(ad:Addr),(storeCells ad []).run P w=.ok () w:=fun ad=>rfl
    simp[Builtin.copy_,zt hu,hsz,hlen,hmin,hfc,s0,goInt]
   ·have had:=had (by rw[hme]; exact hm0)
    subst had;have hst:=zW2 P g (lo*K) te news 0 cur w h6 (by rw[hnl,<-zr1,zr1,h9]; omega) hone
    simp only[zP1,hnl] at hst ⊢;simp[Builtin.copy_,zt hu,hsz,hlen,hmin,hfc,hst,goInt]
  have hob:ObOk F (w.setRow g (cur.toList.take (lo*K)++news++cur.toList.drop (lo*K+m*K)).toArray) (.arr te e (cpyD l lo y)) (.slice (some ⟨g,0,none⟩) l.length (cap0+1)):=by
   have hnF:∀x,F x->x≠g:=fun x hF hg=>by
    subst hg;exact hr.mem.own b _ x (.inr (by rw[hA]; simp)) hρ (by rw[h5c]; rfl) hF
   have hc:∀x,F x->(w.setRow g (cur.toList.take (lo*K)++news++cur.toList.drop (lo*K+m*K)).toArray).heap[x]? = w.heap[x]?:=fun x hF=>zn2 w g x _ (hnF x hF)
   have hcur:cur.toList.length=(cap0+1)*K:=by rw[zr1,h9]
   have hnew:(cur.toList.take (lo*K)++news++cur.toList.drop (lo*K+m*K)).length=(cap0+1)*K:=by
    simp only[zd,hnl,zn,z01,hcur]; omega
   have hxc:∀i,i<l.length*K->xs[i]? = cur.toList[i]?:=fun i hi=>by rw[<-h10,zp,if_pos hi]
   have hsplice:∀i,i<l.length*K->(cur.toList.take (lo*K)++news++cur.toList.drop (lo*K+m*K))[i]? = if lo*K<=i/\i<lo*K+m*K then news[i-lo*K]? else xs[i]?:=by
    intro i hi;have:=qdO cur.toList (lo*K) news (by rw[hnl,hcur]; omega) i
    rw[hnl] at this;rw[this];by_cases h1:i<lo*K
    ·rw[if_pos h1,if_neg (by omega),hxc i hi]
    ·rw[if_neg h1];by_cases h2:i<lo*K+m*K
     ·rw[if_pos h2,if_pos ⟨by omega,h2⟩]
     ·rw[if_neg h2,if_neg (by omega),hxc i hi]
   have hlc:=qtZ l y p1;refine⟨(cur.toList.take (lo*K)++news++cur.toList.drop (lo*K+m*K)).take (l.length*K),⟨by rw[zn,hlc,hK,hnew]; omega,.inr ⟨g,cap0,_,by rw[hlc],zl2 w g cur _ te (0,0) h6,by rw[hlc]; exact h7,h8,by rw[hK]; simpa using hnew,by rw[hlc,hK]⟩⟩,fun i z hz=>?_⟩
   rw[qt0 l y p1,hme] at hz;have hil:i<l.length:=by
    by_cases h1:lo<=i/\i<lo+m
    ·omega
    ·rw[if_neg h1] at hz; exact(zr.1 hz).1
   have hb1:∀q,q<K->(lo*K<=i*K+q↔lo<=i):=fun q hq=>qrD hq
   have hb2:∀q,q<K->(i*K+q<lo*K+m*K↔i<lo+m):=fun q hq=>by
    rw[<-z31];have:=qrD (i:=i) (n:=lo+m) hq;omega
   by_cases h1:lo<=i/\i<lo+m
   ·rw[if_pos h1] at hz;have h2:=(hel (i-lo) z (by omega) hz).mono (F':=F) (fun _ h=>h) hc
    have e9:((((cur.toList.take (lo*K)++news++cur.toList.drop (lo*K+m*K)).take (l.length*K)).drop (i*e.size)).take e.size)=(news.drop ((i-lo)*K)).take e.size:=by
     rw[hK];apply zC1;intro q;rw[zp,zp];by_cases hq:q<K
     ·rw[if_pos hq,if_pos hq,zB,zB];have hiq:=qn4 hil hq;rw[zp,if_pos hiq,hsplice _ hiq,if_pos ⟨(hb1 q hq).2 h1.1,(hb2 q hq).2 h1.2⟩];congr 1;have h3:(i-lo)*K+lo*K=i*K:=by rw[<-z31]; congr 1; omega
      omega
     ·rw[if_neg hq,if_neg hq]
    rw[e9,hK]; exact h2
   ·rw[if_neg h1] at hz;have h2:=(q3 i z hz).mono (F':=F) (fun _ h=>h) hc
    have e9:((((cur.toList.take (lo*K)++news++cur.toList.drop (lo*K+m*K)).take (l.length*K)).drop (i*e.size)).take e.size)=(xs.drop (i*e.size)).take e.size:=by
     rw[hK];apply zC1;intro q;rw[zp,zp];by_cases hq:q<K
     ·rw[if_pos hq,if_pos hq,zB,zB];have hiq:=qn4 hil hq;rw[zp,if_pos hiq,hsplice _ hiq,if_neg (fun h=>h1 ⟨(hb1 q hq).1 h.1,(hb2 q hq).1 h.2⟩)]
     ·rw[if_neg hq,if_neg hq]
    rw[e9]; exact h2
  have hρ2:ρ b=some (.slice (some ⟨g,0,none⟩) l.length (cap0+1)):=by rw[hρ,h5c]
  exact⟨_,by rw[hme]; exact hrun,hr.rowSet hA hρ2 h6 hob⟩
def qCQ(K n:Nat):SV->Option (Nat×Bool)
 | .own _=>some (0,true)
 | .rest _ k lo n'=>bif Nat.beq k K then some (lo,decide (n'=n)) else none
 | _=>none
def copyB:SV->Option Nat
 | .own b=>some b
 | .rest b _ _ _=>some b
 | _=>none
def qxq(b:Nat)(e:Ty)(l:List e.den):SV->Option (List e.den×Bool)
 | .pre b' hi n=>bif Nat.beq b b' then some (l.take hi,decide (n=l.length)&&decide (hi<=l.length)) else none
 | s=>match s.as (.sl e) with
  | some y=>some (y,true)
  | none=>none
def qwI(Γ:List TI)(st:St)(N:Nat)(dst:Option Nat)(t:TypeId)(x y:Operand):Option MR:=
 match copyB (st.ev x) with
 | some b=>match st.a b with
  | some (.arr te e l)=>match qCQ e.size l.length (st.ev x),qxq b e l (st.ev y) with
   | some (lo,g1),some (z,g2)=>bif qiL Γ t e.size&&Nat.blt 0 e.size&&dstOk N dst then
     some ⟨(g1&&g2)&&decide (0<l.length),qac x++(qac y++[.a b]),.a b (some (.arr te e (cpyD l lo z)))::dstWr (.v (.int .i64) (Int.ofNat (min z.length (l.length-lo)))) dst⟩
    else none
   | _,_=>none
  | _=>none
 | none=>none
theorem qyB(hΓ:Tys P Γ){dst:Option Nat}{t t2:TypeId}{x y:Operand}{r:MR}(h:qwI Γ st N dst t x y=some r)(hg:r.g=true):MOk P w0 M N F0 ops st dst (.call { callee:=.builtin .copy,args:=#[x,y],argTypes:=#[t,t2] }) rty r:=by
 unfold qwI at h;split at h
 ·rename_i b hb;split at h
  ·rename_i te e l hA;split at h
   ·rename_i lo g1 z g2 hto hfrom;generalize hc:(qiL Γ t e.size&&Nat.blt 0 e.size&&dstOk N dst)=c at h;cases c with
    | false=>cases h
    | true=>
     simp only[za] at h;injection h with h; subst h
     simp only[z8] at hc;obtain⟨⟨c2,c3⟩,c4⟩:=hc;rw[zX] at c3;obtain⟨et,hu,hsz⟩:=qf9 hΓ c2;simp only[z8,zj] at hg;obtain⟨⟨g1t,g2t⟩,g3⟩:=hg;intro pos af;refine RT.stepW rfl fun st' hag F ρ a w hr=>?_
     have hxd:=hr.evx hag (fun _ h=>mem_l h) (x:=x)
     have hyd:=hr.evx hag (fun _ h=>mem_r (mem_l h)) (x:=y)
     have hA':st'.a b=some (.arr te e l):=by rw[<-(hag (.a b) (by simp):st.a b=st'.a b)]; exact hA
     obtain⟨u0,hρ0,xs,q2,q3⟩:=hr.mem.arr b _ hA';have hob0:∃g cap,u0=.slice (some ⟨g,0,none⟩) l.length cap/\l.length<=cap:=by
      rcases q2.2 with⟨ad,_,h3⟩ | ⟨g,cap,cur,rfl,h6,h7,h8,h9,h10⟩
      ·omega
      ·exact⟨g,cap+1,rfl,h7⟩
     obtain⟨g,cap,rfl,hcap⟩:=hob0
     -- where it goes
     have hd:lo<=l.length/\∃ad c,a.eval x=.slice (some ad) (l.length-lo) c/\(min z.length (l.length-lo)≠0->ad=⟨g,lo*e.size,none⟩):=by
      unfold qCQ at hto;split at hto
      ·rename_i b' hx;injection hto with hto; injection hto with e1 e2; subst e1 e2
       rw[hx] at hb hxd;have:b'=b:=by injection hb
       subst this;generalize a.eval x=u at hxd;cases hxd with
       | own hρ=>
        rw[hρ0] at hρ; injection hρ with hρ; subst hρ
        exact⟨zu1 _,_,_,rfl,fun _=>by simp⟩
      ·rename_i b' k lo' n' hx;rw[hx] at hb hxd;have:b'=b:=by injection hb
       subst this;cases hk:Nat.beq k e.size with
       | false=>rw[hk] at hto; cases hto
       | true=>
        rw[hk] at hto;injection hto with hto; injection hto with e1 e2; subst e1 e2
        have hk:=zc hk;subst hk;have hn:=zi g1t;subst hn;obtain⟨g',cap',hρ,p1,p2,hu1⟩:=qBH hxd;rw[hρ0] at hρ; injection hρ with hρ; injection hρ with e1 e2 e3
        injection e1 with e1; injection e1 with e1
        subst e1 e3;refine⟨p1,?_⟩
        rw[hu1];by_cases hcl:cap=lo'
        ·rw[if_pos hcl];exact⟨_,_,rfl,fun hne=>by omega⟩
        ·rw[if_neg hcl];exact⟨_,_,rfl,fun _=>rfl⟩
      ·cases hto
     have hs:(∃c,a.eval y=.slice none 0 c/\z=[])\/∃(ad:Addr) (c:Nat) (news:List Value),a.eval y=.slice (some ad) z.length c/\news.length=z.length*e.size∧
       (∀q u,news[q]? = some u->w.cell? (ad.add q)=some u/\u.oneCell'=true)/\∀(q:Nat) (x:e.den),z[q]? = some x->RdC F w e x ((news.drop (q*e.size)).take e.size):=by
      unfold qxq at hfrom;split at hfrom
      ·rename_i b' hi n hy;cases hbb:Nat.beq b b' with
       | false=>rw[hbb] at hfrom; cases hfrom
       | true=>
        rw[hbb] at hfrom;injection hfrom with hfrom; injection hfrom with e1 e2; subst e1 e2
        have hbb:=zc hbb;subst hbb;rw[z8] at g2t;have hn:=zi g2t.1;have hhi:=zi g2t.2;subst hn;rw[hy] at hyd;generalize a.eval y=u at hyd;cases hyd with
        | pre hρ hh=>
         rw[hρ0] at hρ; injection hρ with hρ; injection hρ with e1 e2 e3
         injection e1 with e1; injection e1 with e1
         subst e1 e3;rcases qq1 hr.mem hA' hρ0 with⟨c,h1,h2⟩ | ⟨ad,c,news,h1,n1,n2,n3⟩
         ·cases h1
         ·injection h1 with h1a h1b h1c
          injection h1a with h1a
          subst h1a;right;have hlt:(l.take hi).length=hi:=by rw[zn]; omega
          have hle:hi*e.size<=l.length*e.size:=zA _ hhi;refine⟨_,_,news.take (hi*e.size),by rw[hlt],by rw[hlt,zn,n1]; omega,fun q u hq=>?_,fun q x hx=>?_⟩
          ·rw[zp] at hq;split at hq
           ·exact n2 q u hq
           ·cases hq
          ·rw[zp] at hx;split at hx
           ·rename_i hq;have hq1:q*e.size+e.size<=hi*e.size:=by rw[<-zY1]; exact zA _ hq
            rw[z42,zF1,z91 (by omega)]
            exact n3 q x hx
           ·cases hx
      ·split at hfrom
       ·rename_i y' hy';injection hfrom with hfrom; injection hfrom with e1 e2; subst e1 e2
        exact qoC (qtf hy' hyd)
       ·cases hfrom
     obtain⟨w',hrun,hR⟩:=qyA (rty:=rty) (t2:=t2) hr hA' hρ0 g3 hd.1 c3 hu hsz hd.2 hs;cases dst with
     | none=>
      refine⟨.int .i64 (Int.ofNat (min z.length (l.length-lo))),ρ,F,_,.inl ?_,hR,fun _ h=>h,fun _ h=>.inl h⟩
      simp only[execOp,resolve,invoke,builtin,zl,zo,ze,zJ1,zh1,zc2,hrun]
     | some d=>
      refine⟨.int .i64 (Int.ofNat (min z.length (l.length-lo))),ρ,F,_,.inl ?_,hR.setR (by rw[dstOk,zX] at c4; exact c4) (.ofInt _ _),fun _ h=>h,fun _ h=>.inl h⟩
      simp only[execOp,resolve,invoke,builtin,zl,zo,ze,zJ1,zh1,zc2,hrun]
   ·cases h
  ·cases h
 ·cases h
def qwJ(Γ:List TI)(st:St)(N:Nat)(dst:Option Nat)(t:TypeId)(x y:Operand):Option MR:=
 match qzT Γ st N dst t x y with
 | some r=>some r
 | none=>qwI Γ st N dst t x y
theorem qyC(hΓ:Tys P Γ){dst:Option Nat}{t t2:TypeId}{x y:Operand}{r:MR}(h:qwJ Γ st N dst t x y=some r)(hg:r.g=true):MOk P w0 M N F0 ops st dst (.call { callee:=.builtin .copy,args:=#[x,y],argTypes:=#[t,t2] }) rty r:=by
 unfold qwJ at h;split at h
 ·rename_i r' hr; injection h with h; subst h; exact qzU hΓ hr hg
 ·exact qyB hΓ h hg
def qwK(Γ:List TI)(st:St):Op->Option VR
 | .lookup t x ix ok=>match qrB Γ st t x ix ok with
  | some r=>some r
  | none=>evFm Γ st t x ix ok
 | .slice t x (some lo) none none=>qzR Γ st t x lo
 | .slice t x none (some hi) none=>evPre Γ st t x hi
 | .entry x=>qwG st x
 | .convert s d x=>qwH Γ st s d x
 | _=>none
theorem qyD(hΓ:Tys P Γ){op:Op}{r:VR}(h:qwK Γ st op=some r)(hg:r.g=true):VOk P w0 M N st op rty r:=by
 unfold qwK at h;split at h
 ·split at h
  ·rename_i r' hr; injection h with h; subst h; exact qvt hΓ hr
  ·exact qDA hΓ h
 ·exact qzS hΓ h hg
 ·exact qBG hΓ h hg
 ·exact qyy h
 ·exact qyz hΓ h
 ·cases h
def qwL(Γ:List TI)(st:St)(N:Nat)(dst:Option Nat):Op->Option MR
 | .range t x=>match dst with
  | some d=>qwF Γ st N d t x
  | none=>none
 | .call ⟨.builtin .copy,⟨[x,y]⟩,⟨[t,_]⟩⟩=>qwJ Γ st N dst t x y
 | op=>qzO Γ st N dst op
theorem qyE(hΓ:Tys P Γ){dst:Option Nat}{op:Op}{r:MR}(h:qwL Γ st N dst op=some r)(hg:r.g=true):MOk P w0 M N F0 ops st dst op rty r:=by
 unfold qwL at h;split at h
 ·split at h
  ·exact qyx hΓ h
  ·cases h
 ·exact qyC hΓ h hg
 ·exact qzP hΓ h hg
end
end Go.Sq
