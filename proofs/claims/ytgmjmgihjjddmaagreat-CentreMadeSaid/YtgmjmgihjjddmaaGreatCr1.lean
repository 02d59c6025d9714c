/- Files: frames are written, lost in part, and read again. No condition. -/
import Derived.Test.YtgmjmgihjjddmaaGreatWi9
namespace Go.Proofs.YtgmjmgihjjddmaaGreat
open Go Go.Sq Wi
set_option linter.unusedVariables false
def frmB(b:List Int):List Int:=encZ (b.length:Int)++b
def fileB(bs:List (List Int)):List Int:=(bs.map frmB).flatten
theorem qrO(l:List Int)(h:l.length<=1000000):qaM l=some l:=by
 unfold qaM;rw[gd_t (qae (by omega)),zA]
theorem qh5(ps:List (List Int))(h1:ps.length<=1000)(h:ps.flatten.length<=1000000):qbl ps=some ps.flatten:=by
 unfold qbl;have hle:∀i,(ps.take i).flatten.length<=ps.flatten.length:=fun i=>by
  conv=>rhs; rw[<-zE1 i ps,List.flatten_append,ze]
  omega
 have k1:=qbe (step:=fun x:Int×List Int=>qdO ps x.1 x.2) ps.length (fun i=>((i:Int),(ps.take i).flatten)) (e:=ps.flatten) (fun i hi=>by
  unfold qdO;simp only[dec_t (show(i:Int)<(ps.length:Int) by omega),z9,gd_t (inB_t hi),z8]
  have e:(ps.take (i+1)).flatten=(ps.take i).flatten++ps.getD i []:=by
   rw[zm2 hi,List.flatten_append,zj,zk hi]; simp
  have hn:=hle (i+1);rw[e,ze] at hn;rw[gd_t (qae (by omega)),w1 hi (by omega),e]) (by
  unfold qdO;simp only[dec_f (show ¬(ps.length:Int)<(ps.length:Int) by omega),za,zJ1])
 rw[show((((0:Nat):Int),(ps.take 0).flatten):Int×List Int)=(0,[]) from rfl] at k1
 rw[k1]; rfl
theorem qzQ:@qjX=@qhw:=rfl
theorem qrP{b:List Int}(h:b.length<=4000) : -9223372036854775808<=(b.length:Int)/\(b.length:Int)<=9223372036854775807:=by omega
theorem qv0{b:List Int}(h:b.length<=4000):(frmB b).length<=4010/\b.length<(frmB b).length:=by
 have h1:=qiJ (qrP h);have h2:0<(encZ (b.length:Int)).length:=qrM _;unfold frmB; rw[ze]; omega
theorem qA9{b:List Int}(h:b.length<=4000):qgW b=some (0,frmB b):=by
 unfold qgW;have h1:=qiJ (qrP h);rw[dec_f (show ¬(4000:Int)<(b.length:Int) by omega),qzQ,qzF (qrP h) (by simp),za,z7,qh5 _ (by simp) (by simp; omega)]
 unfold frmB; simp
theorem qzR{b:List Int}(h:b.length<=4000):qkg b=some (0,frmB b):=by
 unfold qkg;have h1:=qiJ (qrP h);rw[dec_f (show ¬(4000:Int)<(b.length:Int) by omega),qzG (qrP h) (by simp),za,z7,gd_t (qae (by simp; omega))]
 unfold frmB; simp
/-! ### Reading -/
def Torn(t:List Int):Prop:=∃b k,b.length<=4000/\qbz b/\k<(frmB b).length/\t=(frmB b).take k
structure FilP(bs:List (List Int))(t:List Int):Prop where
 fb:∀x∈bs,x.length<=4000/\qbz x
 ft:Torn t
 n:(fileB bs++t).length<=1000000
theorem qrQ{b:List Int}(h:qbz b):qbz (frmB b):=fun x hx=>(zu.1 hx).elim (qsF _ x) (h x)
theorem FilP.bytes{bs:List (List Int)}{t:List Int}(h:FilP bs t):qbz (fileB bs++t):=fun x hx=>by
 rcases zu.1 hx with hx | hx
 ·obtain⟨l,hl,hx⟩:=List.mem_flatten.1 hx;obtain⟨b,hb,rfl⟩:=z71.1 hl;exact qrQ (h.fb b hb).2 x hx
 ·obtain⟨b,k,_,h2,_,rfl⟩:=h.ft;exact qrQ h2 x (zI1 hx)
/-! ### Writing -/
theorem qCx{F p:List Int}(h:F.length+p.length<=1000000):qio (F,p)=some (F++p,[]):=by
 unfold qio qjY;simp only;rw[show min (max (0:Int) (p.length:Int)) (p.length:Int)=(p.length:Int) by omega,gd_t (by unfold cutG; simp),z8,zJ1,qh5 _ (by simp) (by simp; omega)]
 simp
theorem qzS{F p:List Int}(h:F.length+p.length<=1000000){k:Nat}(hk:k<=p.length):qhA (F,p) (k:Int)=some ([],F++p.take k):=by
 unfold qhA;simp only;rw[show max (0:Int) (min (k:Int) (p.length:Int))=(k:Int) by omega,gd_t (qae (by omega)),gd_t (by unfold cutG; simp; omega),z8,gd_t (qae (by simp; omega))]
 simp
theorem qtQ{F p:List Int}(h:F.length+p.length<=1000000):qjv (F,p)=some ([],F++p):=by
 unfold qjv;rw[qzS h (zX _),zJ1]; rfl
theorem fsame(f:List Int×List Int):qfJ f f=some true:=by
 unfold qfJ;rw[dec_t rfl,dec_t rfl]; rfl
end Go.Proofs.YtgmjmgihjjddmaaGreat
