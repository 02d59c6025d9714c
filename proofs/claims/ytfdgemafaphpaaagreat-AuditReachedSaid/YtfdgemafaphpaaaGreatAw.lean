/- The audit: the example. No condition. -/
import Derived.Test.YtfdgemafaphpaaaGreatQv
namespace Go.Proofs.YtfdgemafaphpaaaGreat
open Go Go.Sq
def chkK{σ ε A:Type}[DecidableEq A](outs:σ->List (Option (σ⊕ε)))(k:ε->Option A)(v:A):Nat->σ->Bool
 | 0,_=>false
 | f+1,x=>!(outs x).isEmpty&&(outs x).all fun o=>match o with
  | none=>false
  | some (.inl y)=>chkK outs k v f y
  | some (.inr e)=>match k e with
   | none=>false
   | some a=>decide (a=v)
theorem qrE{σ ε A:Type}[DecidableEq A]{outs:σ->List (Option (σ⊕ε))}{k:ε->Option A}{v:A}:∀ {f:Nat} {x:σ},chkK outs k v f x=true->NIterK outs k x v
 | 0,x,h=>by cases h
 | f+1,x,h=>by
  unfold chkK at h;rw[z9,zx] at h;obtain⟨h1,h2⟩:=h;refine .mk (fun e=>by rw[e] at h1; cases h1) (fun o ho=>?_) (fun y hy=>qrE (h2 _ hy)) (fun e he=>?_)
  ·cases o with
   | none=>exact absurd (h2 _ ho) (by simp)
   | some r=>exact⟨r,rfl⟩
  ·have:=h2 _ he;simp only at this;split at this
   ·cases this
   ·rename_i q; rw[q,zm this]
abbrev kB:List (List (Int×Int)):=[[(1,100)]]
abbrev kA:List (List (Int×Int)):=[[(2,30),(1,70)]]
theorem k0:qbq kB kA [(2,30)] [(1,30)] 0 []=some (.inl (1,[(1,100)])):=
 (show _=iterK (fun x=>qfg kB kA [(2,30)] [(1,30)] 0 x.1 x.2) ([],[(0,0),(1,100)]) (fun s=>some (.inl (1,s))) by kernel_rfl).trans (qnJ (qrE (f:=4) (by kernel_rfl)))
theorem k1:qbq kB kA [(2,30)] [(1,30)] 1 [(1,100)]=some (.inl (2,[(1,30),(2,-30)])):=
 (show _=iterK (fun x=>qfg kB kA [(2,30)] [(1,30)] 1 x.1 x.2) ([(1,100)],[(0,0),(1,70),(2,30)]) (fun s=>some (.inl (2,s))) by kernel_rfl).trans (qnJ (qrE (f:=4) (by kernel_rfl)))
theorem k2:qbq kB kA [(2,30)] [(1,30)] 2 [(1,30),(2,-30)]=some (.inl (3,[(1,30)])):=
 (show _=iterK (fun x=>qfg kB kA [(2,30)] [(1,30)] 2 x.1 x.2) ([(1,30),(2,-30)],[(0,0),(2,30)]) (fun s=>some (.inl (3,s))) by kernel_rfl).trans (qnJ (qrE (f:=4) (by kernel_rfl)))
theorem k3:qbq kB kA [(2,30)] [(1,30)] 3 [(1,30)]=some (.inl (4,[])):=
 (show _=iterK (fun x=>qfg kB kA [(2,30)] [(1,30)] 3 x.1 x.2) ([(1,30)],[(0,0),(1,30)]) (fun s=>some (.inl (4,s))) by kernel_rfl).trans (qnJ (qrE (f:=4) (by kernel_rfl)))
theorem k4:qbq kB kA [(2,30)] [(1,30)] 4 []=some (.inr (.inl [])):=by kernel_rfl
theorem qC4:qlR kB kA [(2,30)] [(1,30)]=some (true,0):=by
 have k:iter (fun x=>qbq kB kA [(2,30)] [(1,30)] x.1 x.2) (0,[])=some (.inl []):=
  (qcw (step:=fun x:Int×List (Int×Int)=>qbq kB kA [(2,30)] [(1,30)] x.1 x.2) k0).trans ((qcw (step:=fun x:Int×List (Int×Int)=>qbq kB kA [(2,30)] [(1,30)] x.1 x.2) k1).trans ((qcw (step:=fun x:Int×List (Int×Int)=>qbq kB kA [(2,30)] [(1,30)] x.1 x.2) k2).trans ((qcw (step:=fun x:Int×List (Int×Int)=>qbq kB kA [(2,30)] [(1,30)] x.1 x.2) k3).trans (qb0 k4))))
 unfold qlR;rw[k]; rfl
theorem qyd:qeU=some true:=by
 unfold qeU;rw[qC4,z7]
 kernel_rfl
end Go.Proofs.YtfdgemafaphpaaaGreat
