/- The law LtablePlays (merged). -/
import Derived.Test.YtjkpjakodomnmaaGreatDoorKur
set_option linter.unusedVariables false
set_option linter.unusedSimpArgs false
set_option maxRecDepth 100000
set_option maxHeartbeats 16000000
namespace Go.Proofs.YtjkpjakodomnmaaGreatDoor
open Go.RowKit Go.Proofs.Tryz
def PlQ(w:World)(p d q n lines NN:Nat)(t:Nat->Nat)(j:Nat)(A:Option Addr)(m c:Nat)(wr:World):Prop:=
 ∃(κ:Nat->Nat) (vs:List (Int×Int)) (N:Nat) (σ:PwS) (xs:List Int) (L:Nat->Int) (Tr:Nat->TT) (fl:List Nat),o_ κ p d q n lines NN t wr vs N σ xs L Tr fl/\N<=600+6778*j/\vs.length=m/\gP wr A vs/\(∀b,ah A b->κ b=1/\b<wr.heap.size)/\(∀b,b<w.heap.size->κ b=1/\wr.heap[b]?=w.heap[b]?)/\Below w.heap.size w wr
theorem Pp(c:aW):c.c.kind<=3:=by show(c.kind%4).toNat<=3;omega
theorem xj(w:World)(hT:Tab w)(z:Int)(hz: -9223372036854775808<=z/\z<9223372036854775808)(Ac:Option Addr)(len cap:Nat)(cs:List aW)(hcs:rQ w Ac len cap cs):
 Calls prog 5 #[.int .i64 z, .slice Ac len cap] w λe w'=>e= .returned (.bool true)/\Below w.heap.size w w':=by
 have BH:=ag (j8 w hT z hz);have GR:=ag (λ(W:World) (hW:Below w.heap.size w W)=>lD W (hT.below hW));have Ax:=ag hcs;have Ze4:(cap:Int)<9223372036854775808:=by have:=hcs.2.2.1;omega
 have hlc:(len:Int)<=(cap:Int):=by have:=hcs.2.1;omega
 have HW0:=ag hT.1;clear hT hz hcs;go_enter func5,ntmps5
 go_wp2_with (first
  |(go_at_call 10;(with_reducible refine BH.out.mono ?_);rintro e w1 ⟨d,p,q,n,lines,NN,t,σ,N,xs,L,Tr,fl,rfl,hl,oL,nP,hR,hN,eD⟩;have dZ:=ag eD;have HX:=ag (And.intro oL (And.intro hR hN));clear hl oL nP hR hN eD)
  |(go_at_call 11;refine(GR.out _ dZ.out).mono ?_;rintro e w2 ⟨rfl,dy⟩;have xx:=ag dy;clear dy))
 have jc:Hid (PlQ w p d q n lines NN t 0 none 0 0 w2):=by
  obtain⟨oL,hR,hN⟩:=HX.out;have h2:=hR.ch xx.out;have Jr:Below w.heap.size w w2:=dZ.out.trans (xx.out.mono dZ.out.size);refine⟨_,[],N,σ,xs,L,Tr,fl,h2,by omega,rfl,gP.nil,λb hb=>by simp[ah]at hb,λb hb=>⟨?_,Jr.block b hb⟩,Jr⟩;rw[bc (cD hb dZ.out.size)];unfold mC;rw[ax ae,aA hb]
 have HP4:Hid (NN<=26):=by have:=HX.out.2.1.qu.hP;show _<=_;omega
 clear dZ HX xx GR BH;go_loopw [9,8,4,10,11,12,13,14,15,28,29,30,31,32,33,34,35,36,37,38,39,40,41,42,43,44,45,46,47,48,49,50,51,52,53,54,55,56,57,58,59,60,61,62,63,64,65,66,67,68,69,70,71,72,73,74,75,76,77,78,79,80,81,82,83,84,85,86,87,88,89] (λi v _ _ _ _ _ _ _ _ _ _ _ _ _ _ _ _ _ _ _ _ _ _ _ _ _ _ _ _ _ _ _ _ _ _ _ _ _ _ _ _ _ _ _ _ _ _ _ _ _ _ _ _ _ _ _ _ _ _ _ _ _ _ _ _ _ _ _ _ _ wr=>∃(j:Nat) (A:Option Addr) (m c:Nat),j<=len/\j<=40/\i= .int .i64 j/\v= .slice A m c/\PlQ w p d q n lines NN t j A m c wr) (λi _ _ _ _ _ _ _ _ _ _ _ _ _ _ _ _ _ _ _ _ _ _ _ _ _ _ _ _ _ _ _ _ _ _ _ _ _ _ _ _ _ _ _ _ _ _ _ _ _ _ _ _ _ _ _ _ _ _ _ _ _ _ _ _ _ _ _ _ _ _ _=>len-(intOf i).toNat)
 case atStart=>exact⟨0,none,0,0,by omega,by omega,rfl,rfl,jc.out⟩
 case round=>
  clear jc;obtain⟨j,A,m,c,hj,ZeR,rfl,rfl,hI⟩:=hrel;by_cases UW:j<len/\j<40
  . obtain⟨aM,Zc2⟩:=UW
    have dx:(j:Int)<(len:Int):=by omega
    have QO:(j:Int)<40:=by omega
    have e1:IntKind.i64.wrap ((j:Int)+1)=(j:Int)+1:=b9 _ ae;obtain⟨g,off,hAc,eh,F_⟩:=Ax.out.2.2.2.1 ae;obtain⟨κ,vs,N,σ,xs,L,Tr,fl,hR,hN,NT,Bg,cL,NW,px⟩:=hI;obtain⟨cj,SM⟩:=aH (cs.getD j fP);have DN:=Ax.out.2.2.2.2 (cs.getD j fP) (by rw[eY,dG (by rw[Ax.out.1];exact aM)];exact fq _)
    have Hh:Hm κ wr (some ⟨g,off+j*5,none⟩) 1 (cap-j) [cj]:=by
     refine⟨rfl,by omega,λ_=>⟨g,off+j*5,rfl,(NW g eh).1,cD eh px.size,λk hk=> ?_⟩⟩;obtain rfl:k=0:=by omega
     have hc:∀o,wr.cell? ⟨g,o,none⟩=w.cell? ⟨g,o,none⟩:=λo=>by unfold World.cell?;dsimp only;rw[(NW g eh).2]
     have:=F_ j aM;rw[SM]at this;unfold JV at this |-;rw[hc,hc,hc,hc,hc];simpa using this
    rw[SM]at DN;have Av:=ag (xR hR (some ⟨g,off+j*5,none⟩) (cap-j) cj Hh DN ae);have jb:=Pp cj;obtain⟨cl,gq⟩:=aH cj.c;rw[gq]at Av jb;have hle:vs.length<=NN:=by have:=hR.qw.ls.ab.ct;have h2:(aF NN).NN=NN:=rfl;have h3:dY (aF NN).NN [] vs []=vs:=rfl;rw[h3]at this;omega
    have LC:Hid (sq vs):=hR.qw.ls.ab.so;have HF:=ag (And.intro hN (And.intro NT (And.intro Bg (And.intro cL (And.intro NW px)))));have HLE:Hid (vs.length<=NN):=hle;subst hAc;have b1:(j:Int)+1<=(cap:Int):=by omega
    have b2:(0:Int)<=(j:Int):=by omega
    have b3:(j:Int)<=(j:Int)+1:=by omega
    clear F_ hR hN NT Bg cL NW px Hh DN SM hle gq;have HKD:=ag jb;clear jb;go_upto_region 12 with(go_at_call 12;(with_reducible refine Av.out.mono ?_);rintro e w2 ⟨gA,oA,cm,g1,a,bg,en,dL,N',σ',dz,L',wY,eG,rfl,x1,x2,xP,wO,wP,fC,cz⟩;have HM1:=ag xP;have pA:=ag wO;have Hq:=ag (And.intro wP (And.intro fC cz));have m0:=xP.cell 1;have m1:=xP.cell 2;have m2:=xP.cell 3;have m3:=xP.cell 4;have m4:=xP.cell 5;have m5:=xP.cell 6;have m6:=xP.cell 7;have m7:=xP.cell 8;have m8:=xP.cell 9;have ml:=xP.lt;clear xP wO wP fC cz)
    have hV:=pA.out.Ef;obtain⟨hN,NT,Bg,cL,NW,px⟩:=HF.out;obtain⟨wP,fC,cz⟩:=Hq.out;have hle:=HLE.out;have ZJ:=HP4.out;obtain⟨⟨nq,gv,ge⟩,hq⟩:∃r,cI NN vs cl=r:=⟨_,rfl⟩;have rS:Hid (∀W,Below w2.heap.size w2 W->Calls prog 25 #[.pointer (some ⟨q,0,none⟩)] W λe w'=>e= .returned (.int .i64 (NN:Int))/\W=w'):=λW hW=>kZ (hV.bl hW)
    have AA:Hid (∀W,Below w2.heap.size w2 W->Calls prog 24 #[.slice A m c, .int .i64 (NN:Int), .agg #[.int .i64 (cl.kind:Int), .int .u64 cl.key, .int .u64 cl.val, .int .u64 cl.old, .int .i64 bg, .int .i64 en, .bool true, .int .u64 gv, .int .i64 ge]] W (GY A W (nq,gv,ge))):=λW hW=>by
     have:=sI (w:=W) m c NT ae ((Pn Bg (λ_ b hb=>(cL b hb).1) cz).below hW) LC.out NN ae cl HKD.out bg en true gv ge;rwa[hq]at this
    rw[hq]at hV;have Sn:Hid (∀W A4 m4 c4,Below w2.heap.size w2 W->nq.length=m4->gP W A4 nq->Calls prog 26 #[.pointer (some ⟨q,0,none⟩), .slice A4 m4 c4] W λe w'=>e= .returned (.bool true)/\Below W.heap.size W w'):=λW A4 m4 c4 hW hl hr=>zP (hV.bl hW) A4 m4 c4 hl hr
    simp only[hq]at m7 m8 |-;have HQ:=ag hq;clear hV hN NT Bg cL NW px wP fC cz hle ZJ hq;generalize (cl.kind:Int)=ck at m0 AA;generalize cl.key=cky at m1 AA;generalize cl.val=cvl at m2 AA;generalize cl.old=cod at m3 AA
    go_region_held3 (λw'=>w'.cell? ⟨w2.heap.size,0,none⟩=some (.int .i64 ck)/\w'.cell? ⟨w2.heap.size,1,none⟩=some (.int .u64 cky)/\w'.cell? ⟨w2.heap.size,2,none⟩=some (.int .u64 cvl)/\w'.cell? ⟨w2.heap.size,3,none⟩=some (.int .u64 cod)/\w'.cell? ⟨w2.heap.size,4,none⟩=some (.int .i64 bg)/\w'.cell? ⟨w2.heap.size,5,none⟩=some (.int .i64 en)/\w'.cell? ⟨w2.heap.size,6,none⟩=some (.bool true)/\w'.cell? ⟨w2.heap.size,7,none⟩=some (.int .u64 gv)/\w'.cell? ⟨w2.heap.size,8,none⟩=some (.int .i64 ge)/\w2.heap.size<w'.heap.size)
     ((refine⟨?_,?_,?_,?_,?_,?_,?_,?_,?_,?_⟩<;>first|assumption|(go_simp;done)|(simp;omega)))
     (first
       |(go_at_call 25;(with_reducible refine(rS.out _ aC).mono ?_);rintro e w3 ⟨rfl,rfl⟩)
       |(go_at_call 24;(with_reducible refine(AA.out _ aC).mono ?_);rintro e w4 ⟨A4,m4,c4,rfl,Bk,nI,kH,ho4⟩;have uQ:=ag (And.intro Bk (And.intro nI ho4));have Ay:Hid (Below w2.heap.size w2 w4):=(by show Below _ _ _;exact(by exact aC:Below w2.heap.size w2 _).trans (kH.mono oH));obtain⟨y,rfl⟩:=aE kH;clear Bk nI kH ho4))
    go_wp2_with (go_at_call 26;(with_reducible refine(Sn.out _ A4 m4 c4 (by first|exact Ay.out|(exact Ay.out.trans ((by exact aC:Below y.w.heap.size y.w _).mono Ay.out.size))) uQ.out.1 uQ.out.2.1).mono ?_);rintro e w5 ⟨rfl,AH⟩;have lJ:Hid (Below w2.heap.size w2 w5):=Ay.out.trans (AH.mono Ay.out.size);have Zcg:=ag AH;clear AH)
    refine⟨⟨j+1,A4,m4,c4,by omega,by omega,by go_num,rfl,?_⟩,by simp[intOf];omega⟩;obtain⟨hN,NT,Bg,cL,NW,px⟩:=HF.out;obtain⟨wP,fC,cz⟩:=Hq.out;obtain⟨Bk,nI,ho4⟩:=uQ.out;have hR5:=pA.out.ch lJ.out;rw[HQ.out]at hR5;have vI:=px.size;have DD:=cz.size;have hs5:=Zcg.out.size;refine⟨_,nq,N',σ',dz,L',wY,eG,hR5,by omega,Bk,nI.below Zcg.out,λb hb=> ?_,λb hb=>⟨?_,?_⟩,?_⟩
    . rcases ho4 b hb with⟨h1,h4⟩|h1
      . have h3:w2.heap.size<=b:=by simp at h1;omega
        exact⟨gD h3 ae,by omega⟩
      . obtain⟨h2,h3⟩:=cL b h1
        refine⟨?_,by have:=lJ.out.size;omega⟩;rw[bc ae,fC b h3];exact h2
    . rw[bc ae,fC b ae];exact(NW b hb).1
    . rw[lJ.out.block b ae,cz.block b ae (λhx=>by have:=(NW b hb).1;omega)];exact(NW b hb).2
    . have dy:Below w.heap.size w w2:=bM px cz (λb hb=>by
       by_cases aM:b<w.heap.size
       . have:=(NW b aM).1;omega
       . omega)
      exact dy.trans (lJ.out.mono dy.size)
  . have HI:=ag hI
    clear hI;by_cases aM:j<len
    . have dx:(j:Int)<(len:Int):=by omega
      have QO:¬(j:Int)<40:=by omega
      go_wp2;obtain⟨_,_,_,_,_,_,_,_,_,_,_,_,_,_,px⟩:=HI.out;exact bH (v:= .bool true) (by simp[results,results5,go_sem]) rfl ⟨rfl,px⟩
    . have dx:¬(j:Int)<(len:Int):=by omega
      go_wp2;obtain⟨_,_,_,_,_,_,_,_,_,_,_,_,_,_,px⟩:=HI.out;exact bH (v:= .bool true) (by simp[results,results5,go_sem]) rfl ⟨rfl,px⟩
end Go.Proofs.YtjkpjakodomnmaaGreatDoor
