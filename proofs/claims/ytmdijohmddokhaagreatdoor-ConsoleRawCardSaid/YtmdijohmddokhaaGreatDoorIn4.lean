/- Lemmas. No condition. -/
import Derived.Test.YtmdijohmddokhaaGreatDoorProg
import Derived.Test.YtmdijohmddokhaaGreatDoorSqZ
import Derived.WalkKit
import Derived.ProofKit
import Derived.Shelf.Spec.SlicesInsert
import Derived.Lib.AppendZerosOnto
namespace Go.Proofs
open Go Go.RowKit Go.Sq Go.Lib
set_option linter.unusedVariables false
theorem qf0{P:Program}(w:World)(dT sT ty elem:TypeId)(k b o dLen dCap:Nat)(a:Addr)(sLen sCap:Nat)(cs:List Value)
  (hu:P.underlying dT=some (.slice elem)) (hs:(P.info? elem).map (·.size)=some k) (hn:cs.length=Nat.min sLen dLen*k)
  (hsrc:∀j v,cs[j]? = some v->w.cell? (a.add j)=some v) (hc:∀j,j<cs.length->(w.cell? ⟨b,o+j,none⟩).isSome=true) (hf:∀j,j<cs.length->w.frozen? ⟨b,o+j,none⟩=false) (h1:∀v∈cs,v.oneCell'=true):
  (Builtin.copy_ #[dT,sT] ty #[.slice (some ⟨b,o,none⟩) dLen dCap,.slice (some a) sLen sCap]).run P w=.ok (goInt (Nat.min sLen dLen)) (w.setCells b o cs):=by
 have hl:=z43 (P:=P) w a cs hsrc;have hst:=run_storeCells_cells (P:=P) b o cs 0 w (by simpa using hc) (by simpa using hf) h1
 cases hq:P.info? elem with
 | none=>simp[hq] at hs
 | some i=>
  have hi:i.size=k:=by simpa[hq] using hs
  rw[hn] at hl;simp[Builtin.copy_,zu hu,Builtin.lenOf,Builtin.firstCells,sizeOf,typeInfo,hq,hi,hl,hst]
set_option maxRecDepth 1000000
set_option maxHeartbeats 4000000
theorem nt196:Tryz.f196.ntmps=95:=by kernel_rfl
theorem qCz(b n c i vb voff vc:Nat)(cs vs:List Value)(w:World)(z:Value)(i0:TypeInfo)(hi0:Tryz.prog.info? 108=some i0)(hz0:i0.zero=some z)(hs0:i0.size=6)(hzl:z.cells.size=6)
  (hi:i<n) (hnc:n<=c) (hc:c<n+1) (hbig:(n+1)*i0.bytes<=140737488355328) (hb0:1<=i0.bytes)
  (hcl:cs.length=n*6) (hvl:vs.length=6) (hcs:∀j v,cs[j]? = some v->w.cell? ⟨b,j,none⟩=some v) (hvs:∀j v,vs[j]? = some v->w.cell? ⟨vb,voff+j,none⟩=some v)
  (h1c:∀v∈cs,v.oneCell'=true) (h1v:∀v∈vs,v.oneCell'=true):
  Calls Tryz.prog 196 #[.slice (some ⟨b,0,none⟩) n c,.int .i64 i,.slice (some ⟨vb,voff,none⟩) 1 vc] w fun e w'=>∃ROW:Array Value,ROW=(cs.take (i*6)).toArray++Builtin.zeroCells z.cells (n+1-i)++Builtin.zeroCells z.cells (grownCap w (n+1) c 108-(n+1))∧
   e=.returned (.slice (some ⟨w.heap.size,0,none⟩) (n+1) (grownCap w (n+1) c 108))/\w'=(((w.alloc (.cells ROW 108)).drew.setCells w.heap.size (i*6) vs).drew).setCells w.heap.size ((i+1)*6) (cs.drop (i*6)):=by
 have u45:=zu Tryz.underlying45;have u3:=zu Tryz.underlying3;have u108:=zu Tryz.underlying108;have u4:=zu Tryz.underlying4;have t45:=Tryz.underlying45;have t3:=Tryz.underlying3;have mixed:Tryz.prog.follows .mixedOrders=true:=by kernel_rfl
 have z108:(Tryz.prog.info? 108).map (·.size)=some 6:=by rw[hi0]; simp[hs0]
 generalize hP:Tryz.prog=P at*
 have s108:∀W:World,(sizeOf 108).run P W=.ok 6 W:=by
  intro W; simp[sizeOf,typeInfo,hi0,hs0]
 have hbw:b<w.heap.size:=block_lt_of_cell (hcs 0 _ (zj (by omega)))
 have hvw:vb<w.heap.size:=block_lt_of_cell (hvs 0 _ (zj (by omega)))
 have hn1:n+1<=140737488355328:=zA (z42 _ hb0) hbig;have hold:(Builtin.firstCells i0.size i (.slice (some ⟨b,0,none⟩) i c)).run P w.drew=.ok (cs.take (i*6)).toArray w.drew:=by
  rw[hs0];exact run_firstCells_some w.drew 6 i ⟨b,0,none⟩ i c (cs.take (i*6)) (by rw[zm,hcl]; omega) (fun j v hj=>by
   rw[zo1,z11];rw[zr] at hj;split at hj
   ·exact hcs j v hj
   ·cases hj)
 have hkk:(n:Int)+1-(i:Int)=((n+1-i:Nat):Int):=by omega
 have hik:i+(n+1-i)=n+1:=by omega
 have hrz:∀ty,(Builtin.append_ #[45,3] ty #[.slice (some ⟨b,0,none⟩) i c,.int .i64 ((n:Int)+1-(i:Int))]).run P w=.ok (.slice (some ⟨w.heap.size,0,none⟩) (n+1) (grownCap w (n+1) c 108))
   (w.drew.alloc (.cells ((cs.take (i*6)).toArray++Builtin.zeroCells z.cells (n+1-i)++Builtin.zeroCells z.cells (grownCap w (n+1) c 108-(n+1))) 108)):=by
  intro ty;have h:=Lib.run_append_grow_zeros w 45 3 ty 108 i0 z .i64 .i64 t45 t3 hi0 hz0 (some ⟨b,0,none⟩) i c (cs.take (i*6)) hold (n+1-i) (by omega) (by omega) (by omega) (by omega) (by
   have:(n+1-i)*i0.bytes<=(n+1)*i0.bytes:=zD _ (by omega)
   omega) (by rw[hik]; exact zQ2 (by omega) (by omega))
  rw[hik] at h;rw[hkk]; exact h
 obtain⟨G,hG⟩:∃G,G=grownCap w (n+1) c 108:=⟨_,rfl⟩;obtain⟨ROW,hROW⟩:∃ROW:Array Value,ROW=(cs.take (i*6)).toArray++Builtin.zeroCells z.cells (n+1-i)++Builtin.zeroCells z.cells (G-(n+1)):=⟨_,rfl⟩;rw[<-hG] at hrz ⊢;rw[<-hROW] at hrz;have hGn:n+1<=G:=by rw[hG]; exact z93 w _ _ _
 have hG63:G<=9223372036854775807:=by
  have:=zz2 w (n+1) c 108 (by unfold maxLen; omega)
  rw[<-hG] at this;unfold maxLen at this;omega
 have hRl:ROW.size=G*6:=by
  rw[hROW];simp only[z62,zA1,zm,zP2,hzl,hcl];omega
 obtain⟨W1,hW1⟩:∃W1,W1=w.drew.alloc (.cells ROW 108):=⟨_,rfl⟩;rw[<-hW1] at hrz;have hN:∀j,j<G*6->(W1.cell? ⟨w.heap.size,j,none⟩).isSome=true:=fun j hj=>by
  rw[hW1,World.cell?_alloc_at (w:=w.drew) ROW _ w.heap.size j rfl,zG1 (by omega)]; rfl
 have hNf:∀j,W1.frozen? ⟨w.heap.size,j,none⟩=false:=fun j=>by rw[hW1]; exact World.frozen?_alloc_at (w:=w.drew) ROW _ w.heap.size j rfl
 have hOb:∀j v,w.cell? ⟨b,j,none⟩=some v->W1.cell? ⟨b,j,none⟩=some v:=fun j v h=>by rw[hW1,World.cell?_alloc_past (w:=w.drew) _ b j hbw]; exact h
 have hOv:∀j v,w.cell? ⟨vb,j,none⟩=some v->W1.cell? ⟨vb,j,none⟩=some v:=fun j v h=>by rw[hW1,World.cell?_alloc_past (w:=w.drew) _ vb j hvw]; exact h
 have hcpA:∀(W:World),(∀x,W.cell? x=W1.cell? x)->(∀x,W.frozen? x=W1.frozen? x)->∀ty dc,(Builtin.copy_ #[45,45] ty #[.slice (some ⟨w.heap.size,i*6,none⟩) (n+1-i) dc,.slice (some ⟨vb,voff,none⟩) 1 vc]).run P W=.ok (goInt (Nat.min 1 (n+1-i))) (W.setCells w.heap.size (i*6) vs):=fun W hWc hWf ty dc=>
  qf0 W _ _ ty 108 6 w.heap.size (i*6) (n+1-i) dc ⟨vb,voff,none⟩ 1 vc vs t45 z108 (by rw[hvl]; simp only[Nat.min_def]; split <;> omega)
   (fun j v hj=>by rw[zo1,hWc]; exact hOv _ v (hvs j v hj))
   (fun j hj=>by rw[hWc]; exact hN _ (by omega)) (fun j hj=>by rw[hWf]; exact hNf _) h1v
 have hbN:b≠w.heap.size:=by omega
 have hdl:(cs.drop (i*6)).length=(n-i)*6:=by rw[zR,hcl]; omega
 have hcpB:∀(W:World),(∀x,W.cell? x=(W1.setCells w.heap.size (i*6) vs).cell? x)->(∀x,W.frozen? x=(W1.setCells w.heap.size (i*6) vs).frozen? x)->∀ty dc sc,(Builtin.copy_ #[45,45] ty #[.slice (some ⟨w.heap.size,(i+1)*6,none⟩) (n+1-(i+1)) dc,.slice (some ⟨b,i*6,none⟩) (n-i) sc]).run P W=.ok (goInt (Nat.min (n-i) (n+1-(i+1)))) (W.setCells w.heap.size ((i+1)*6) (cs.drop (i*6))):=fun W hWc hWf ty dc sc=>
  qf0 W _ _ ty 108 6 w.heap.size ((i+1)*6) (n+1-(i+1)) dc ⟨b,i*6,none⟩ (n-i) sc (cs.drop (i*6)) t45 z108 (by rw[hdl]; simp only[Nat.min_def]; split <;> omega)
   (fun j v hj=>by
    rw[zo1,hWc,World.cell?_setCells_out _ _ _ _ _ (fun h _=>absurd h hbN)]
    exact hOb _ v (hcs (i*6+j) v (by rwa[zE] at hj)))
   (fun j hj=>by rw[hWc]; exact isSome_setCells _ _ _ _ (fun t ht=>hN _ (by omega)) _ (hN _ (by omega)))
   (fun j hj=>by rw[hWf,World.frozen?_setCells]; exact hNf _) (fun v hv=>h1c v (zf2 hv))
 subst hW1;have hE1:∀x,((w.alloc (.cells ROW 108)).drew).cell? x=(w.drew.alloc (.cells ROW 108)).cell? x:=fun x=>rfl
 have hE2:∀x,((w.alloc (.cells ROW 108)).drew).frozen? x=(w.drew.alloc (.cells ROW 108)).frozen? x:=fun x=>rfl
 have hF1:∀x,(((w.alloc (.cells ROW 108)).drew.setCells w.heap.size (i*6) vs).drew).cell? x=((w.drew.alloc (.cells ROW 108)).setCells w.heap.size (i*6) vs).cell? x:=fun x=>rfl
 have hF2:∀x,(((w.alloc (.cells ROW 108)).drew.setCells w.heap.size (i*6) vs).drew).frozen? x=((w.drew.alloc (.cells ROW 108)).setCells w.heap.size (i*6) vs).frozen? x:=fun x=>rfl
 have hz1:¬((1:Int)=0):=by omega
 have hz2:¬((i:Int)=(n:Int)):=by omega
 have hz3:(c:Int)<(n:Int)+(1:Int):=by omega
 have hGi:¬(G=i):=by omega
 have hGim:¬(G=i+1):=by omega
 have hci:¬(c=i):=by omega
 have hw0:IntKind.i64.wrap ((n:Int)+1)=(n:Int)+1:=by rw[zW2]; omega
 have hw2:IntKind.i64.wrap ((n:Int)+1-(i:Int))=(n:Int)+1-(i:Int):=by rw[zW2]; omega
 have hw1:IntKind.i64.wrap ((i:Int)+1)=(i:Int)+1:=by rw[zW2]; omega
 have hb1:(0:Int)<=(i:Int)+1:=by omega
 have hin:i<=n:=by omega
 have hic:i<=c:=by omega
 have htn:((i:Int)+1).toNat=i+1:=by omega
 have hb3:(i:Int)<=(n:Int):=by omega
 clear hkk hik hold hRl hbig;suffices key:Calls P 196 #[.slice (some ⟨b,0,none⟩) n c,.int .i64 i,.slice (some ⟨vb,voff,none⟩) 1 vc] w (fun e w'=>e=.returned (.slice (some ⟨w.heap.size,0,none⟩) (n+1) G)/\w'=(((w.alloc (.cells ROW 108)).drew.setCells w.heap.size (i*6) vs).drew).setCells w.heap.size ((i+1)*6) (cs.drop (i*6))) from by
  refine key.mono ?_
  intro e w' h;exact⟨ROW,hROW,h⟩
 clear hROW hG
 go_enter (hP ▸ Tryz.func196),nt196
 go_wp2_with (first
  | (at_builtin; refine Lib.wpList_append_run _ rfl _ _ _ _ rfl _ _ rfl rfl _ _ (hrz _) ?_)
  | (at_builtin; refine wpList_copy_runI _ rfl _ _ 45 45 rfl _ _ rfl rfl (hcpA _ hE1 hE2 _ _) ?_)
  | (at_builtin; refine wpList_copy_runI _ rfl _ _ 45 45 rfl _ _ rfl rfl (hcpB _ (fun _=>rfl) (fun _=>rfl) _ _ _) ?_))
 go_region_law_o (refine step_copy_runI rfl _ _ 45 45 rfl (.slice (some ⟨w.heap.size,(i+1)*6,none⟩) (n+1-(i+1)) (G-(i+1))) (.slice (some ⟨b,i*6,none⟩) (n-i) (c-i)) (by simp[Act.eval,Act.put]) (by simp[Act.eval,Act.put]) (hcpB _ hF1 hF2 3 (G-(i+1)) (c-i)) ?_)
 go_wp2
 go_ret
 exact⟨rfl,rfl⟩
set_option maxRecDepth 1000000
set_option maxHeartbeats 4000000
theorem qAU(b n c i vb voff vc:Nat)(cs vs:List Value)(w:World)(hi:i<n)(hroom:n+1<=c)(hc63:c<=9223372036854775807)(hvb:vb≠b)
  (hcl:cs.length=n*6) (hvl:vs.length=6) (hcs:∀j v,cs[j]? = some v->w.cell? ⟨b,j,none⟩=some v)
  (hsp:∀j,j<(n+1)*6->(w.cell? ⟨b,j,none⟩).isSome=true) (hfz:∀j,j<(n+1)*6->w.frozen? ⟨b,j,none⟩=false)
  (hvs:∀j v,vs[j]? = some v->w.cell? ⟨vb,voff+j,none⟩=some v) (h1c:∀v∈cs,v.oneCell'=true) (h1v:∀v∈vs,v.oneCell'=true)
  (tA tB:TypeId) (kA kB:Nat) (hsa:w.shape? vb=some (tA,kA)) (hsb:w.shape? b=some (tB,kB)) (hkB:kB≠0) (hfa:w.frozen? ⟨vb,voff,none⟩=false) (hfe:w.frozen? ⟨vb,kA,none⟩=false):
  Calls Tryz.prog 196 #[.slice (some ⟨b,0,none⟩) n c,.int .i64 i,.slice (some ⟨vb,voff,none⟩) 1 vc] w fun e w'=>
   e=.returned (.slice (some ⟨b,0,none⟩) (n+1) c)/\w'=(w.drew.setCells b ((i+1)*6) (cs.drop (i*6))).setCells b (i*6) vs:=by
 have u45:=zu Tryz.underlying45;have u3:=zu Tryz.underlying3;have u108:=zu Tryz.underlying108;have u4:=zu Tryz.underlying4;have t45:=Tryz.underlying45;have t3:=Tryz.underlying3;have mixed:Tryz.prog.follows .mixedOrders=true:=by kernel_rfl
 have z108:(Tryz.prog.info? 108).map (·.size)=some 6:=by kernel_rfl
 have hov0:∀W:World,(sizeOf 108).run Tryz.prog W=.ok 6 W->True:=fun _ _=>trivial
 have s108':∀W:World,(sizeOf 108).run Tryz.prog W=.ok 6 W:=by
  intro W;cases h:Tryz.prog.info? 108 with
  | none=>rw[h] at z108; cases z108
  | some i0=>rw[h] at z108; injection z108 with z108; simp at z108; simp[sizeOf,typeInfo,h,z108]
 have hov:∀lb cb,(callFunc 245 #[.slice (some ⟨vb,voff,none⟩) 1 vc,.slice (some ⟨b,(i+1)*6,none⟩) lb cb]).run Tryz.prog w=.ok (.value (.bool false)) w:=fun lb cb=>by
  rw[zZ2 Tryz.func245 (by kernel_rfl) (by kernel_rfl) (by kernel_rfl) (e:=Extern.SlicesOverlaps.overlaps #[45,45] #[4]) (by kernel_rfl),
   Lib.run_overlaps_apart w 45 4 108 t45 6 s108' ⟨vb,voff,none⟩ ⟨b,(i+1)*6,none⟩ 1 vc lb cb hvb tA tB kA kB hsa hsb hkB hfa hfe]
  rfl
 generalize hP:Tryz.prog=P at*
 have s108:=s108';have hdl:(cs.drop (i*6)).length=(n-i)*6:=by rw[zR,hcl]; omega
 have hw0:IntKind.i64.wrap ((n:Int)+1)=(n:Int)+1:=by rw[zW2]; omega
 have hw1:IntKind.i64.wrap ((i:Int)+1)=(i:Int)+1:=by rw[zW2]; omega
 have hb1:(0:Int)<=(i:Int)+1:=by omega
 have hin:i<=n:=by omega
 have htn:((i:Int)+1).toNat=i+1:=by omega
 have htn2:((n:Int)+1).toNat=n+1:=by omega
 have hb2:¬(c=i+1):=by omega
 have hb3:(i:Int)<=(n:Int)+1:=by omega
 have hb4:¬(c=i):=by omega
 have hz1:¬((1:Int)=0):=by omega
 have hz2:¬((i:Int)=(n:Int)):=by omega
 have hz3:¬((c:Int)<(n:Int)+(1:Int)):=by omega
 have hcp1:∀ty dc sc,(Builtin.copy_ #[45,45] ty #[.slice (some ⟨b,(i+1)*6,none⟩) (n-i) dc,.slice (some ⟨b,i*6,none⟩) (n+1-i) sc]).run P w.drew=.ok (goInt (Nat.min (n+1-i) (n-i))) (w.drew.setCells b ((i+1)*6) (cs.drop (i*6))):=fun ty dc sc=>
  qf0 w.drew _ _ ty 108 6 b ((i+1)*6) (n-i) dc ⟨b,i*6,none⟩ (n+1-i) sc (cs.drop (i*6)) t45 z108 (by rw[hdl]; simp only[Nat.min_def]; split <;> omega)
   (fun j v hj=>by rw[zo1]; exact hcs (i*6+j) v (by rwa[zE] at hj))
   (fun j hj=>hsp _ (by omega)) (fun j hj=>hfz _ (by omega)) (fun v hv=>h1c v (zf2 hv))
 obtain⟨W1,hW1⟩:∃W1,W1=w.drew.setCells b ((i+1)*6) (cs.drop (i*6)):=⟨_,rfl⟩;have hsp1:∀k,k<(n+1)*6->(W1.cell? ⟨b,k,none⟩).isSome=true:=fun k hk=>by
  rw[hW1];exact isSome_setCells b (cs.drop (i*6)) ((i+1)*6) w.drew (fun j hj=>hsp _ (by rw[hdl] at hj; omega)) k (hsp k hk)
 have hcp2:∀(W:World),(∀x,W.cell? x=W1.cell? x)->(∀x,W.frozen? x=W1.frozen? x)->∀ty dc,(Builtin.copy_ #[45,45] ty #[.slice (some ⟨b,i*6,none⟩) (n+1-i) dc,.slice (some ⟨vb,voff,none⟩) 1 vc]).run P W=.ok (goInt (Nat.min 1 (n+1-i))) (W.setCells b (i*6) vs):=fun W hWc hWf ty dc=>
  qf0 W _ _ ty 108 6 b (i*6) (n+1-i) dc ⟨vb,voff,none⟩ 1 vc vs t45 z108 (by rw[hvl]; simp only[Nat.min_def]; split <;> omega)
   (fun j v hj=>by
    rw[zo1,hWc,hW1,World.cell?_setCells_out b _ _ _ _ (fun h _=>absurd h hvb)]
    exact hvs j v hj)
   (fun j hj=>by rw[hWc]; exact hsp1 _ (by omega)) (fun j hj=>by rw[hWf,hW1,World.frozen?_setCells]; exact hfz _ (by omega)) h1v
 rw[<-hW1] at hcp1
 go_enter (hP ▸ Tryz.func196),nt196
 go_wp2_with (simp only[hov])
 go_region_law_o (refine step_copy_runI rfl _ _ 45 45 rfl _ _ (by simp[Act.eval,Act.put]) (by simp[Act.eval,Act.put]) (hcp1 _ _ _) ?_)
 go_wp2_with (at_builtin; refine wpList_copy_runI _ rfl _ _ 45 45 rfl _ _ rfl rfl (hcp2 _ (fun _=>rfl) (fun _=>rfl) _ _) ?_)
 go_ret
 first | exact⟨rfl,rfl⟩ | exact⟨rfl,by rw[hW1]⟩
theorem qEz(base:Option Addr)(n c vb voff vc:Nat)(w:World)(hnc:n<=c)(hc63:c<=9223372036854775807)(hb:base=none->n=0/\c=0)(v':Value)(w1:World)
  (hr:∀ty,(Builtin.append_ #[45,45] ty #[.slice base n c,.slice (some ⟨vb,voff,none⟩) 1 vc]).run Tryz.prog w=.ok v' w1):
  Calls Tryz.prog 196 #[.slice base n c,.int .i64 n,.slice (some ⟨vb,voff,none⟩) 1 vc] w fun e w'=>e=.returned v'/\w'=w1:=by
 have u45:=zu Tryz.underlying45;have u3:=zu Tryz.underlying3;have u108:=zu Tryz.underlying108;have u4:=zu Tryz.underlying4;have t45:=Tryz.underlying45;have t3:=Tryz.underlying3;have mixed:Tryz.prog.follows .mixedOrders=true:=by kernel_rfl
 have z108:(Tryz.prog.info? 108).map (·.size)=some 6:=by kernel_rfl
 have s108:∀W:World,(sizeOf 108).run Tryz.prog W=.ok 6 W:=by
  intro W;cases h:Tryz.prog.info? 108 with
  | none=>rw[h] at z108; cases z108
  | some i0=>rw[h] at z108; injection z108 with z108; simp at z108; simp[sizeOf,typeInfo,h,z108]
 generalize hP:Tryz.prog=P at*
 have hz1:¬((1:Int)=0):=by omega
 cases base with
 | none=>
  obtain⟨rfl,rfl⟩:=hb rfl
  go_enter (hP ▸ Tryz.func196),nt196
  go_wp2_with (at_builtin; refine Lib.wpList_append_run _ rfl _ _ _ _ rfl _ _ rfl rfl _ _ (hr _) ?_)
  go_ret
  exact⟨rfl,rfl⟩
 | some a=>
  by_cases hcn:c=n
  ·subst hcn
   go_enter (hP ▸ Tryz.func196),nt196
   go_wp2_with (at_builtin; refine Lib.wpList_append_run _ rfl _ _ _ _ rfl _ _ rfl rfl _ _ (hr _) ?_)
   go_ret
   exact⟨rfl,rfl⟩
  ·go_enter (hP ▸ Tryz.func196),nt196
   go_wp2_with (at_builtin; refine Lib.wpList_append_run _ rfl _ _ _ _ rfl _ _ rfl rfl _ _ (hr _) ?_)
   go_ret
   exact⟨rfl,rfl⟩
theorem ins_grow'{zv:Value}{bytes:Nat}(tk:∃i,Tryz.prog.info? 108=some i/\i.size=6/\i.bytes=bytes/\i.zero=some zv)(hz:zv.cells.size=6)(hb:1<=bytes)
  (b n c i vb voff vc:Nat) (cs vs:List Value) (w:World) (hi:i<n) (hnc:n<=c) (hc:c<n+1) (hbig:(n+1)*bytes<=140737488355328) (hcl:cs.length=n*6) (hvl:vs.length=6)
  (hcs:∀j v,cs[j]? = some v->w.cell? ⟨b,j,none⟩=some v) (hvs:∀j v,vs[j]? = some v->w.cell? ⟨vb,voff+j,none⟩=some v) (h1c:∀v∈cs,v.oneCell'=true) (h1v:∀v∈vs,v.oneCell'=true):
  Calls Tryz.prog 196 #[.slice (some ⟨b,0,none⟩) n c,.int .i64 i,.slice (some ⟨vb,voff,none⟩) 1 vc] w fun en w'=>∃(ROW:Array Value) (G:Nat),ROW.size=G*6/\n+1<=G/\G<=maxLen/\ROW.toList.take (i*6)=cs.take (i*6)∧
   en=.returned (.slice (some ⟨w.heap.size,0,none⟩) (n+1) G)/\w'=(((w.alloc (.cells ROW 108)).drew.setCells w.heap.size (i*6) vs).drew).setCells w.heap.size ((i+1)*6) (cs.drop (i*6)):=by
 obtain⟨i0,h0,h1,h2,h3⟩:=tk;subst h2;refine(qCz b n c i vb voff vc cs vs w zv i0 h0 h3 h1 hz hi hnc hc hbig hb hcl hvl hcs hvs h1c h1v).mono ?_
 rintro en w' ⟨ROW,hR,he,hw⟩
 have hn1:n+1<=140737488355328:=zA (z42 _ hb) hbig;have hG:n+1<=grownCap w (n+1) c 108:=z93 w _ _ _;refine⟨ROW,grownCap w (n+1) c 108,?_,hG,zz2 w (n+1) c 108 (by unfold maxLen; omega),?_,he,hw⟩
 ·rw[hR];simp only[z62,zA1,zm,zP2,hz,hcl];omega
 ·rw[hR];simp only[zJ2,zw];rw[zl1 (by rw[zm,hcl]; omega),zO1,Nat.min_self]
end Go.Proofs
