/- The second engine, part U: a function's contract, from its evaluation. No condition. -/
import Derived.Test.YtmdijohmddokhaaGreatDoorSqT
namespace Go.Sq
open Go Go.RowKit
def qvF(Γ:List TI)(su:St):ResultVar->Option SV
 | .tmp t=>some (su.r t)
 | .cell t ty=>match look Γ ty,su.r t with
  | some i,.ptr b o=>match su.v b with
   | some (_,k)=>bif qbJ i.desc then(bif Nat.ble (o+i.size) k then some (.agg (qbq su b o i.size)) else none) else(bif Nat.blt o k then some (su.c b o) else none)
   | none=>none
  | some _,.ael _ _ _ _=>match qtg Γ su ty (.tmp t) with
   | some r=>some r.s
   | none=>none
  | _,_=>none
def resLs(Γ:List TI)(su:St):List ResultVar->Option (List SV)
 | []=>some []
 | r::l=>match qvF Γ su r,resLs Γ su l with
  | some s,some t=>some (s::t)
  | _,_=>none
def retC(C:Cx)(pins:List Nat)(jo:J)(rs:List ResultVar)(su:St):Option (CT jo.ct):=
 match resLs C.Γ (κ0.sub su) rs with
 | some ss=>jo.packC pins κ0 { κ0.sub su with r:=nthS ss }
 | none=>none
def retK(C:Cx)(pins:List Nat)(jo:J)(rs:List ResultVar):Ex->St->Option (CT jo.ct)
 | .x _,_=>none
 | _,su=>retC C pins jo rs su
def qlB(ji jo:J):List Nat:=ji.names.filter fun b=>memN jo.names b
noncomputable def evFun(C:Cx)(ji jo:J)(rs:List ResultVar)(c:Code)(p:Plan)(x:CT ji.ct):Option (CT jo.ct):=
 ev C (qlB ji jo) c p (CT jo.ct) κ0 (ji.put (fun _=>.any) (fun _ _=>.any) x) (retK C (qlB ji jo) jo rs)
section
variable {P:Program} {C:Cx}
theorem qyL(hΓ:Tys P C.Γ){w0:World}{M:Mod}{N:Nat}{F:Nat->Prop}{ρ:Env}{a:Act}{w:World}{su:St}(h:Rel' P w0 M N F ρ su a w){r:ResultVar}{s:SV}(hs:qvF C.Γ su r=some s):
  ∃v,Den P F w ρ s v/\(match r with | .tmp t=>(pure (a.tmps.getD t undef):Sem Value) | .cell t ty=>do loadVar ty (<- asAddr (a.tmps.getD t undef))).run P w=.ok v w:=by
 cases r with
 | tmp t=>simp only[qvF] at hs; injection hs with hs; subst hs; exact⟨_,h.regs t,rfl⟩
 | cell t ty=>
  have hl:∃r,qtg C.Γ su ty (.tmp t)=some r/\r.s=s:=by
   simp only[qvF] at hs;split at hs
   ·rename_i i b o hi hr;unfold qtg;rw[hi,show su.ev (.tmp t)=su.r t from rfl,hr]
    split at hs
    ·rename_i tyb k hv;simp only[hv];cases ha:qbJ i.desc with
     | true=>
      rw[ha] at hs; simp only[za] at hs ⊢;cases hb:Nat.ble (o+i.size) k with
      | false=>rw[hb] at hs; cases hs
      | true=>rw[hb] at hs; injection hs with hs; subst hs; exact⟨_,rfl,rfl⟩
     | false=>
      rw[ha] at hs; simp only[zb] at hs ⊢;cases hb:Nat.blt o k with
      | false=>rw[hb] at hs; cases hs
      | true=>rw[hb] at hs; injection hs with hs; subst hs; exact⟨_,rfl,rfl⟩
    ·cases hs
   ·split at hs
    ·rename_i r hr; injection hs with hs; subst hs; exact⟨r,hr,rfl⟩
    ·cases hs
   ·cases hs
  obtain⟨r,hl,hrs⟩:=hl;obtain⟨u,h1,h2⟩:=qvb (M:=M) (w0:=w0) (N:=N) (rty:=0) hΓ hl su (fun κ _=>agree.refl _ κ) F ρ a w h none "" #[] none
  rw[hrs] at h2;refine⟨u,h2,?_⟩
  have h3:(Instr.loadAt ty (a.tmps.getD t undef)).run P w=.ok u w:=by
   have h4:(execOp a.eval ⟨none,.load ty (.tmp t),0,"",#[],none⟩).run P w=((Instr.loadAt ty (a.tmps.getD t undef)).run P w).andThen (fun v w'=>.ok (.value v) w'):=by
    simp only[execOp,zl,zo]; rfl
   rw[h4] at h1;cases hh:(Instr.loadAt ty (a.tmps.getD t undef)).run P w with
   | ok v' w'=>rw[hh] at h1; simp only[ze] at h1; injection h1 with e1 e2; injection e1 with e1; subst e1 e2; rfl
   | halt x w'=>rw[hh] at h1; cases h1
  have hr':(∃b o,su.r t=.ptr b o)\/∃b k i o,su.r t=.ael b k i o:=by
   simp only[qvF] at hs;split at hs
   ·rename_i hr; exact .inl ⟨_,_,hr⟩
   ·rename_i hr; exact .inr ⟨_,_,_,_,hr⟩
   ·cases hs
  have hd:=h.regs t;rcases hr' with⟨b,o,hr⟩ | ⟨b,k,i,o,hr⟩
  rotate_left
  ·rw[hr] at hd;generalize hx:a.tmps.getD t undef=x at hd h3;cases hd with
   | ael hρ hi=>
    simp only[Instr.loadAt,Instr.sureAddr,zl,zo,ze] at h3;simp only[hx,asAddr,zl,zo,ze,h3]
  rw[hr] at hd;generalize hx:a.tmps.getD t undef=x at hd h3;cases hd with
  | ptr hρ=>
   simp only[Instr.loadAt,Instr.sureAddr,zl,zo,ze] at h3;simp only[hx,asAddr,zl,zo,ze,h3]
theorem qvG(hΓ:Tys P C.Γ){w0:World}{M:Mod}{N:Nat}{F:Nat->Prop}{ρ:Env}{a:Act}{w:World}{su:St}(h:Rel' P w0 M N F ρ su a w):∀ {rs:List ResultVar} {ss:List SV},resLs C.Γ su rs=some ss->
  ∃vs:List Value,ss.length=vs.length/\vs.length=rs.length/\(∀(i:Nat) (s:SV) (v:Value),ss[i]? = some s->vs[i]? = some v->Den P F w ρ s v)∧
   (rs.mapM (m:=Sem) fun | .tmp t=>pure (a.tmps.getD t undef) | .cell t ty=>do loadVar ty (<- asAddr (a.tmps.getD t undef))).run P w=.ok vs w
 | [],ss,hs=>by
  simp only[resLs] at hs; injection hs with hs; subst hs
  exact⟨[],rfl,rfl,fun i s v hs=>by simp at hs,rfl⟩
 | r::l,ss,hs=>by
  simp only[resLs] at hs;split at hs
  ·rename_i s t h0 h1;injection hs with hs; subst hs
   obtain⟨vs,e1,e0,e2,e3⟩:=qvG hΓ h h1;obtain⟨v,hv,hr⟩:=qyL hΓ h h0;refine⟨v::vs,by simp[e1],by simp[e0],fun i s' v' hs' hv'=>?_,?_⟩
   ·cases i with
    | zero=>simp at hs' hv'; subst hs' hv'; exact hv
    | succ i=>exact e2 i s' v' (by simpa using hs') (by simpa using hv')
   ·rw[List.mapM_cons,zl];have hr':=hr;rw[hr'];simp only[ze,zl,e3,zo]
  ·cases hs
theorem qvH{kr:Nat->SV}{n:Nat}:∀ {l:List (Nat×Sh)} {cs:List SV},l.all (fun p=>Nat.blt p.1 n)=true->∀t,n<=t->lookR (qka kr l cs).1 t=.any
 | [],_,_,_,_=>rfl
 | (t0,s)::l,cs,h,t,ht=>by
  simp only[z11,z8,zX] at h;show(bif Nat.beq t t0 then _ else lookR _ t)=_;rw[bq (show t≠t0 by omega)]
  exact qvH h.2 t ht
theorem FunOk.nothing{e:Fun}{fn:Func}{c:Code}(hf:P.funcs[e.f]? = some fn)(hb:fn.body=some c)(hname:(fn.name == "runtime.NumGoroutine")=false)(h:∀x,e.tw x=none):FunOk P e:=
 ⟨⟨fn,hf,hname,by rw[hb]; rfl⟩,fun x y hxy=>by rw[h] at hxy; cases hxy⟩
theorem FunOk.intro{e:Fun}{fn:Func}{c:Code}{p:Plan}(hf:P.funcs[e.f]? = some fn)(hb:fn.body=some c)(hname:(fn.name == "runtime.NumGoroutine")=false)(hN:fn.ntmps=C.N)(hnp:Nat.ble e.np C.N=true)
  (hnr:fn.results.toList.length=e.nr) (hregs:e.ji.regs.all (fun q=>Nat.blt q.1 e.np)=true) (hΓ:Tys P C.Γ) (hfs:CxOk P C) (hm:P.follows .mixedOrders=true)
  (htw:∀x,e.tw x=evFun C e.ji e.jo fn.results.toList c p x):FunOk P e:=by
 have hnp':=zH hnp;refine⟨⟨fn,hf,hname,by rw[hb]; rfl⟩,fun x y hxy F w ρ vs hlen hmem hden=>?_⟩
 rw[htw] at hxy
 let M:Mod:=⟨InBlk ρ e.ji.names,fun b=>if b∈qlB e.ji e.jo then ρ b else none⟩
 have hpins:∀b v,M.pin b=some v->b∈qlB e.ji e.jo:=by
  intro b v hp;have hp':(if b∈qlB e.ji e.jo then ρ b else none)=some v:=hp
  by_cases hm:b∈qlB e.ji e.jo
  ·exact hm
  ·rw[if_neg hm] at hp'; cases hp'
 have hnm:∀b v,ρ b=some v->b∈e.ji.names:=by
  intro b v hv;by_cases hb:b∈e.ji.names
  ·exact hb
  ·have hd0:(e.ji.put0 x).d b=false:=zJ.2 fun hh=>hb (qaU.1 (show memN e.ji.names b=true from hh))
   rw[hmem.dom b hd0] at hv; cases hv
 have hinit:Rel' P w M C.N F ρ (e.ji.put0 x) { tmps:=vs.toArray++Array.replicate (fn.ntmps-vs.toArray.size) undef,defers:=[] } w:=by
  refine⟨Fr.refl w _,hmem,fun b v g hp hv hg=>?_,fun t=>?_,?_,rfl,fun b v hp=>?_⟩
  ·exact .inl ⟨b,v,hnm b v hv,hv,hg⟩
  ·by_cases ht:t<vs.length
   ·have hget:(vs.toArray++Array.replicate (fn.ntmps-vs.toArray.size) undef).getD t undef=vs[t]:=by
     rw[z41,Array.getElem?_append_left (by simpa using ht)]
     simp[ht]
    rw[hget];exact hden t _ (zk ht)
   ·have:(e.ji.put0 x).r t=.any:=by
     show((lookR (qka (fun _=>SV.any) e.ji.regs (ofCL e.ji.ct (ofT e.ji.ct x))).1 t).res κ0)=.any
     rw[qvH hregs t (by omega)]; rfl
    rw[this]; exact .any _
  ·simp only[z02,zy1,Array.size_replicate]; omega
  ·have hp':(if b∈qlB e.ji e.jo then ρ b else none)=some v:=hp
   by_cases hm:b∈qlB e.ji e.jo
   ·rw[if_pos hm] at hp'; exact hp'
   ·rw[if_neg hm] at hp'; cases hp'
 have hrun:=ev_ok (P:=P) (w0:=w) (M:=M) (F0:=F) hΓ hfs hm hpins c p (CT e.jo.ct) κ0 _ _ y hxy _ w ⟨F,ρ,hinit,fun _ h=>h,fun _ h=>.inl h⟩
 refine calls_of_wp hf hb ?_
 refine zK1 ?_ hrun
 rintro en a' w' ⟨ex,su,rfl,hk,F',ρ',hr,hF1,hF2⟩
 have fin:retC C (qlB e.ji e.jo) e.jo fn.results.toList su=some y->a'.defers=[]/\∃v,(results fn a'.tmps).run P w'=.ok v w'/\∃r F' ρ',Ending.returned v=.returned r/\Fr w (InBlk ρ e.ji.names) w'/\(∀g,F g->F' g)/\(∀g,F' g->F g\/InBlk ρ e.ji.names g\/w.heap.size<=g)/\MemOk P F' w' ρ' (e.jo.put0 y)∧
   (∀b v,b∈e.ji.names->b∈e.jo.names->ρ b=some v->ρ' b=some v)/\(∀b v g,(e.jo.put0 y).present b->ρ' b=some v->blkOf v=some g->InBlk ρ e.ji.names g\/w.heap.size<=g)/\Den P F' w' ρ' (resSV e.nr (e.jo.put0 y)) r:=by
  intro hret;unfold retC at hret;split at hret
  ·rename_i ss hss;obtain⟨rv,e1,e0,e2,e3⟩:=qvG (P:=P) hΓ hr hss
   -- the results as a frame of their own
   have hfr:Rel' P w M rv.length F' ρ' { κ0.sub su with r:=nthS ss } { tmps:=rv.toArray,defers:=[] } w':=by
    refine⟨hr.fr,hr.mem.congr rfl rfl rfl rfl,hr.lo,fun t=>?_,by simp,rfl,hr.pin⟩
    show Den P F' w' ρ' (nthS ss t) _;by_cases ht:t<ss.length
    ·rw[qt5 (zk ht)];have h2:rv.toArray.getD t undef=rv[t]'(by omega):=by simp[z41,show t<rv.length by omega]
     rw[h2];exact e2 t _ _ (zk ht) (zk (by omega))
    ·rw[qvA (by omega)]; exact .any _
   obtain⟨F2,ρ2,hfin,g1,g2⟩:=qoK (kr:=fun _=>.any) (kc:=fun _ _=>.any) (κ':=κ0) hpins hret (fun _=>rfl) (fun _ _=>rfl) (a:={ tmps:=rv.toArray,defers:=[] }) (w:=w') (F0:=F) ⟨F',ρ',hfr.subs κ0,hF1,hF2⟩
   have hregs2:∀i (h:i<rv.length),Den P F2 w' ρ2 ((e.jo.put0 y).r i) rv[i]:=by
    intro i hi;have:=hfin.regs i;have h2:rv.toArray.getD i undef=rv[i]:=by simp[z41,hi]
    rw[<-h2]; exact this
   refine⟨hr.df,(if h:rv.length=1 then rv[0] else .tuple rv.toArray),?_,_,F2,ρ2,rfl,hfin.fr,g1,fun g hg=>?_,hfin.mem,fun b v hb1 hb2 hv=>?_,fun b v g hp hv hg=>hfin.lo b v g hp hv hg,?_⟩
   ·unfold results;rw[zl,Array.mapM_eq_mapM_toList,Sem.run_map];refine Eq.trans (congrArg (fun r=>Result.andThen (Result.andThen r _) _) e3) ?_
    simp
   ·exact g2 g hg
   ·refine hfin.pin b v ?_
    show(if b∈qlB e.ji e.jo then ρ b else none)=some v
    rw[if_pos (show b∈qlB e.ji e.jo from zg2.2 ⟨hb1,qaU.2 hb2⟩)]; exact hv
   ·unfold resSV;have hnr':rv.length=e.nr:=by rw[e0,hnr]
    by_cases h1:rv.length=1
    ·rw[dif_pos h1,show Nat.beq e.nr 1=true by rw[<-hnr',h1]; rfl]
     exact hregs2 0 (by omega)
    ·rw[dif_neg h1,bq (show e.nr≠1 by omega)]
     refine .tup (by simp[hnr']) (fun i s v hs hv=>?_)
     rw[zL] at hs;obtain⟨q,hq,rfl⟩:=zc1.1 hs;have hi:i<rv.length:=(zr.1 hv).1;rw[List.getElem?_range (by omega)] at hq
     injection hq with hq; subst hq
     rw[zk hi] at hv; injection hv with hv; subst hv
     exact hregs2 i hi
  ·cases hret
 cases ex with
 | n=>exact fin hk
 | r=>exact fin hk
 | x id=>cases hk
end
end Go.Sq
