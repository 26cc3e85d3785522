/- Calls that came in (merged). -/
import Derived.Test.YtjkpjakodomnmaaGreatDoorKuv
import Derived.Deep.SlicePairs
import Derived.WideShapes
set_option linter.unusedVariables false
set_option linter.unusedSimpArgs false
set_option maxRecDepth 100000
set_option maxHeartbeats 16000000
namespace Go.Proofs.YtjkpjakodomnmaaGreatDoor
open Go.RowKit
def rQ(w:World)(A:Option Addr)(len cap:Nat)(cs:List aW):Prop:=
 cs.length=len/\len<=cap/\cap<=9223372036854775807/\(0<len->∃g off,A=some ⟨g,off,none⟩/\g<w.heap.size/\∀k,k<len->JV w g (off+k*5) (cs.getD k fP))/\
 ∀c∈cs,oF c
theorem xI{P:Program}{H:Type}{enc:TypeId×Value->H}{W:World}{fuel:Nat}{A:Option Addr}{len cap:Nat}{x:DataW H×List MemPlace}{t e:TypeId}{f0 f1 f2 f3 f4:Field}
 (ht:P.underlying t=some (.slice e)) (he:P.underlying e=some (.struct #[f0,f1,f2,f3,f4])) (ce:P.cellsOf e=5) (o0:f0.offset=0) (o1:f1.offset=1) (o2:f2.offset=2) (o3:f3.offset=3) (o4:f4.offset=4)
 (c0:P.cellsOf f0.type=1) (c1:P.cellsOf f1.type=1) (c2:P.cellsOf f2.type=1) (c3:P.cellsOf f3.type=1) (c4:P.cellsOf f4.type=1) (u0:P.underlying f0.type=some (.int .i64)) (u1:P.underlying f1.type=some (.int .i64)) (u2:P.underlying f2.type=some (.int .u64)) (u3:P.underlying f3.type=some (.int .u64)) (u4:P.underlying f4.type=some (.int .u64))
 (h:DataW.trod enc P W 0 (λ_=>true) true fuel t [.slice A len cap]=some x):∃cs,rQ W A len cap cs:=by
 rcases Go.Deep.open_slice ht h with⟨hcs,_⟩|⟨a,l,c,m,n,D,Pl,hcs,hb,hl,hm,NV,_,hx⟩
 . simp only[tV,KJ,mF]at hcs
   obtain⟨rfl,rfl,rfl⟩:=hcs;exact⟨[],rfl,a_ _,by omega,λh=>by omega,λe he=>by simp at he⟩
 . simp only[tV,KJ,mF]at hcs
   obtain⟨rfl,rfl,rfl⟩:=hcs;simp only[cR]at NV
   have each:∀i,i<m->∃p:aW,W.cell? (a.add (i*5))=some (.int .i64 p.kind)/\W.cell? (a.add (i*5+1))=some (.int .i64 p.a8)/\W.cell? (a.add (i*5+2))=some (.int .u64 p.key)/\W.cell? (a.add (i*5+3))=some (.int .u64 p.val)/\W.cell? (a.add (i*5+4))=some (.int .u64 p.old)/\oF p:=by
    intro i hi;obtain⟨cs',h1,h2⟩:=hx i hi;rw[ce]at h1;obtain⟨_,hlen,hcell⟩:=World.cells?_some h1;obtain⟨xs,k,hk,Ux,_,SC,hf⟩:=KG he h2;match xs,SC,cs',hlen with
    |[y0,y1,y2,y3,y4],_,[v0,v1,v2,v3,v4],_=>
     have g0:=hf 0 f0 rfl;have g1:=hf 1 f1 rfl;have g2:=hf 2 f2 rfl;have g3:=hf 3 f3 rfl;have g4:=hf 4 f4 rfl;simp[o0,o1,o2,o3,o4,c0,c1,c2,c3,c4]at g0 g1 g2 g3 g4;have e0:=hcell 0 ae;have e1:=hcell 1 ae;have e2:=hcell 2 ae;have e3:=hcell 3 ae;have e4:=hcell 4 ae;rw[Go.Deep.add_add]at e0 e1 e2 e3 e4;obtain⟨z0,q0,_,r0⟩:=mG u0 g0;obtain⟨z1,q1,_,r1⟩:=mG u1 g1;obtain⟨z2,q2,_,r2⟩:=mG u2 g2;obtain⟨z3,q3,_,r3⟩:=mG u3 g3;obtain⟨z4,q4,_,r4⟩:=mG u4 g4;simp only[tV,mF]at q0 q1 q2 q3 q4;subst q0 q1 q2 q3 q4;exact⟨⟨z0,z1,z2,z3,z4⟩,by simpa using e0,by simpa using e1,by simpa using e2,by simpa using e3,by simpa using e4,⟨wf_i64 r0,wf_i64 r1,wf_u64 r2,wf_u64 r3,wf_u64 r4⟩⟩
   have:Inhabited aW:=⟨fP⟩;obtain⟨q,hq⟩:=Go.Deep.choose_lt each;refine⟨(List.range len).map q,by simp,hl,by unfold maxLen at hm;omega,λBh=> ?_,λe he=> ?_⟩
   . have Gh:=(hq 0 ae).1
     have ux:a.add (0*5)=a:=by simp[Addr.add]
     rw[ux]at Gh;have aM:=sR W a Gh;obtain⟨b,off,sp⟩:=a
     have K6:sp=none:=by
      cases sp with
      |none=>rfl
      |some s=>
       unfold World.cell? at Gh;split at Gh<;>simp at Gh
     subst K6;have h3:∀i,(⟨b,off,none⟩:Addr).add i=⟨b,off+i,none⟩:=by intro i;unfold Addr.add;split<;>simp_all
     refine⟨b,off,rfl,aM,λk hk=> ?_⟩;obtain⟨e0,e1,e2,e3,e4,r1⟩:=hq k ae;rw[h3]at e0 e1 e2 e3 e4
     have hg:((List.range len).map q).getD k fP=q k:=by
      rw[eY,AX,KN hk];rfl
     rw[hg];refine⟨e0,?_,?_,?_,?_⟩
     . rw[<-sL]at e1;exact e1
     . rw[<-sL]at e2;exact e2
     . rw[<-sL]at e3;exact e3
     . rw[<-sL]at e4;exact e4
   . obtain⟨k,hk,rfl⟩:=iJ.1 he
     have jC:k<len:=by simpa using hk
     obtain⟨_,_,_,_,_,r1⟩:=hq k ae;exact r1
theorem JL{α:Type}{cs:Array α}(h:cs.size=5):∃c0 c1 c2 c3 c4,cs= #[c0,c1,c2,c3,c4]:=by
 obtain⟨l⟩:=cs;match l,h with
 |[c0,c1,c2,c3,c4],_=>exact⟨c0,c1,c2,c3,c4,rfl⟩
theorem vw{P:Program}{H:Type}{enc:TypeId×Value->H}{W:World}{base:Nat}{spare:Nat->Bool}{held:Bool}{r:Reach}{b0:Nat}{t:TypeId}{f0 f1 f2 f3 f4:Field}{v:Value}{d:DataW H}{p:List MemPlace}
 (he:P.underlying t=some (.struct #[f0,f1,f2,f3,f4])) (ce:P.cellsOf t=5) (o0:f0.offset=0) (o1:f1.offset=1) (o2:f2.offset=2) (o3:f3.offset=3) (o4:f4.offset=4)
 (c0:P.cellsOf f0.type=1) (c1:P.cellsOf f1.type=1) (c2:P.cellsOf f2.type=1) (c3:P.cellsOf f3.type=1) (c4:P.cellsOf f4.type=1) (u0:P.underlying f0.type=some (.int .i64)) (u1:P.underlying f1.type=some (.int .i64)) (u2:P.underlying f2.type=some (.int .u64)) (u3:P.underlying f3.type=some (.int .u64)) (u4:P.underlying f4.type=some (.int .u64))
 (hv:Value.okWide P W r b0 t v) (h:DataW.Trod enc P W base spare held t v d p):∃c:aW,v=Pq c/\oF c:=by
 obtain⟨cs,rfl,lR⟩:=Wv he hv;obtain⟨v0,v1,v2,v3,v4,rfl⟩:=JL (lR.trans ce);obtain⟨fuel,hf⟩:=h;obtain⟨xs,k,hk,Ux,_,SC,hf⟩:=KG he hf;match xs,SC with
 |[y0,y1,y2,y3,y4],_=>
  have g0:=hf 0 f0 rfl;have g1:=hf 1 f1 rfl;have g2:=hf 2 f2 rfl;have g3:=hf 3 f3 rfl;have g4:=hf 4 f4 rfl;simp[Value.cells,o0,o1,o2,o3,o4,c0,c1,c2,c3,c4]at g0 g1 g2 g3 g4;obtain⟨z0,q0,_,r0⟩:=mG u0 g0;obtain⟨z1,q1,_,r1⟩:=mG u1 g1;obtain⟨z2,q2,_,r2⟩:=mG u2 g2;obtain⟨z3,q3,_,r3⟩:=mG u3 g3;obtain⟨z4,q4,_,r4⟩:=mG u4 g4;simp only[tV,mF]at q0 q1 q2 q3 q4;subst q0 q1 q2 q3 q4;exact⟨⟨z0,z1,z2,z3,z4⟩,rfl,⟨wf_i64 r0,wf_i64 r1,wf_u64 r2,wf_u64 r3,wf_u64 r4⟩⟩
theorem rQ.lf{κ:Nat->Nat}{w w':World}{A:Option Addr}{len cap:Nat}{cs:List aW}(h:rQ w A len cap cs)(hs:w.heap.size<=w'.heap.size)(hk:∀b,b<w.heap.size->κ b=1/\w'.heap[b]?=w.heap[b]?):Hm κ w' A len cap cs:=by
 refine⟨h.1,h.2.1,λhp=> ?_⟩;obtain⟨g,off,e1,e2,e3⟩:=h.2.2.2.1 hp;obtain⟨f1,f2⟩:=hk g e2;have hc:∀o,w'.cell? ⟨g,o,none⟩=w.cell? ⟨g,o,none⟩:=λo=>by unfold World.cell?;dsimp only;rw[f2]
 exact⟨g,off,e1,f1,cD e2 hs,λk hk=>by unfold JV;rw[hc,hc,hc,hc,hc];exact e3 k hk⟩
end Go.Proofs.YtjkpjakodomnmaaGreatDoor
