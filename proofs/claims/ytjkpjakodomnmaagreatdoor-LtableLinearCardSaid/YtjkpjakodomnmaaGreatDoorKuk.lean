/- Fill (merged). -/
import Derived.Test.YtjkpjakodomnmaaGreatDoorKuv
set_option linter.unusedVariables false
set_option linter.unusedSimpArgs false
set_option maxRecDepth 100000
set_option maxHeartbeats 16000000
namespace Go.Proofs.YtjkpjakodomnmaaGreatDoor
open Go.RowKit Go.Proofs.Tryz
section
variable{κ:Nat->Nat}{p d q n lines NN N:Nat}{t:Nat->Nat}{vs:List (Int×Int)}{w w':World}{σ:PwS}{xs:List Int}{L:Nat->Int}{Tr:Nat->TT}{fl:List Nat}
theorem o_.RG{S:Nat->Prop}(h:o_ κ p d q n lines NN t w vs N σ xs L Tr fl)(hC:Ch S w w')(hS:∀b,b<w.heap.size->S b->κ b=1/\b≠0):o_ (iY κ w w' 1) p d q n lines NN t w' vs N σ xs L Tr fl:=by
 have gg:=h.qu.hq.lt;have h0:=h.qu.tab.1;refine⟨⟨(h.qu.pm.chQ hC (λb hb hs=>by have:=(hS b hb hs).1;omega)).iY,h.qu.hq.keep (hC.block q gg (λhs=>by have:=(hS q gg hs).1;have:=h.qu.kq;omega)),by rw[bc gg];exact h.qu.kq,h.qu.tab.ch hC (λhs=>(hS 0 h0 hs).2 rfl),by rw[bc h0];exact h.qu.k0,h.qu.hn,h.qu.hP,h.qu.dS⟩,h.qw,λb bG=> ?_,h.xG⟩;unfold iY;split
 . omega
 . exact h.k2 b ae
def FlQ(κ:Nat->Nat)(p d q n lines NN:Nat)(t:Nat->Nat)(N:Nat)(w:World)(j:Nat)(A:Option Addr)(c:Nat)(wr:World):Prop:=
 ∃(dL:Nat->Nat) (N':Nat) (σ:PwS) (xs:List Int) (L:Nat->Int) (Tr:Nat->TT) (fl:List Nat),o_ dL p d q n lines NN t wr (aY j) N' σ xs L Tr fl/\N'<=N+6778*j/\Sl 45 2 wr A j c (az (aY j))/\(∀b,ah A b->dL b=1/\w.heap.size<=b)/\(∀b,b<w.heap.size->dL b=κ b)/\Ch (λb=>κ b=0\/κ b=2) w wr
def ZaD(κ:Nat->Nat)(p d q n lines NN:Nat)(t:Nat->Nat)(N:Nat)(w:World)(m:Nat)(e:Ending)(w':World):Prop:=
 ∃A c,e= .returned (.tuple #[.slice A m c, .bool true])/\FlQ κ p d q n lines NN t N w m A c w'
theorem Un{κ:Nat->Nat}{W:World}{g:Nat}{c1 c2 c3 c4 c5:Int}(h:CB W g 33 #[.int .i64 c1, .int .i64 c2, .int .u64 c3, .int .u64 c4, .int .u64 c5])(hk:κ g=1):Hm κ W (some ⟨g,0,none⟩) 1 1 [⟨c1,c2,c3,c4,c5⟩]:=by
 refine⟨rfl,a_ _,λ_=>⟨g,0,rfl,hk,h.lt,λk hk=> ?_⟩⟩;obtain rfl:k=0:=by omega
 exact⟨h.cell 0,h.cell 1,h.cell 2,h.cell 3,h.cell 4⟩
theorem DT(h:o_ κ p d q n lines NN t w [] N σ xs L Tr fl)(m:Nat)(hm:m<=NN)(hN:N+6778*NN<1000000):Calls prog 28 #[.pointer (some ⟨q,0,none⟩), .int .i64 (m:Int)] w (ZaD κ p d q n lines NN t N w m):=by
 have hP:=h.qu.hP;have rS:=ag (kZ h.Ef);have jc:Hid (FlQ κ p d q n lines NN t N w 0 none 0 w):=⟨κ,N,σ,xs,L,Tr,fl,h,by omega,Sl.nil,λb hb=>by simp[ah]at hb,λb hb=>rfl,Ch.refl _ _⟩;have HW0:=ag h.qu.tab.1;have UN:Qz (m:Int) (NN:Int)=(m:Int):=by unfold Qz;split<;>omega
 have hNb:NN<=26:=by omega
 clear h hP;go_enter func28,ntmps28
 go_wp2_with (go_at_call 25;(with_reducible refine rS.out.mono ?_);rintro e w' ⟨rfl,rfl⟩)
 go_loopw [14,6,4,5,7,8,9,15,16,17,18,19,20,21,22,23,24,25,26,27,28,29,30,31,32,33,34,35,36,37,38,39,40,41,42,43,44,45,46,47,48,49,50] (λi l _ _ _ _ _ _ _ _ _ _ _ _ _ _ _ _ _ _ _ _ _ _ _ _ _ _ _ _ _ _ _ _ _ _ _ _ _ _ _ _ _ wr=>∃(j:Nat) (A:Option Addr) (c:Nat),j<=m/\i= .int .i64 j/\l= .slice A j c/\FlQ κ p d q n lines NN t N w j A c wr) (λi _ _ _ _ _ _ _ _ _ _ _ _ _ _ _ _ _ _ _ _ _ _ _ _ _ _ _ _ _ _ _ _ _ _ _ _ _ _ _ _ _ _ _=>m-(intOf i).toNat)
 case atStart=>exact⟨0,none,0,by omega,rfl,rfl,jc.out⟩
 case round=>
  clear jc;obtain⟨j,A,c,hj,rfl,rfl,hI⟩:=hrel;by_cases aM:j<m
  . have dx:(j:Int)<(m:Int):=by omega
    obtain⟨r3,DF⟩:∃r3:Int,(j:Int)%3=r3:=⟨_,rfl⟩;have e0:(j:Int).tmod 3=r3:=by rw[ID ae];exact DF
    have e1:IntKind.u64.wrap (j:Int)=(j:Int):=bY _ ae;have e2:IntKind.u64.wrap r3=r3:=bY _ ae;have e3:IntKind.i64.wrap ((j:Int)+1)=(j:Int)+1:=b9 _ ae;obtain⟨dL,N',σ',dz,L',wY,eG,hR,wP,hO,hA,hk,hC⟩:=hI;have SN:Below wr.heap.size wr (wr.alloc (.cells #[.int .i64 1, .int .i64 0, .int .u64 (j:Int), .int .u64 r3, .int .u64 0] 33)):=ai (bZ _ _) _;have M9:=hR.ch SN;have Hh:=Un (κ:=iY dL wr (wr.alloc (.cells #[.int .i64 1, .int .i64 0, .int .u64 (j:Int), .int .u64 r3, .int .u64 0] 33)) 1) (CB.new wr 33 #[.int .i64 1, .int .i64 0, .int .u64 (j:Int), .int .u64 r3, .int .u64 0]) (gD (a_ _) smQ);have SQ:N'+6778<1000000:=by omega
    have gq:(⟨1,0,(j:Int),r3,0⟩:aW).c=⟨1,(j:Int),r3,0⟩:=by
     show(⟨((1:Int)%4).toNat,(j:Int)%1099511627776,r3%1099511627776,(0:Int)%1099511627776⟩:TC)=_
     congr 1<;>omega
    have DE:=xR M9 (some ⟨wr.heap.size,0,none⟩) 1 ⟨1,0,(j:Int),r3,0⟩ Hh ⟨by show -9223372036854775808<=(1:Int)/\(1:Int)<9223372036854775808;omega,by show -9223372036854775808<=(0:Int)/\(0:Int)<9223372036854775808;omega,by show 0<=(j:Int)/\(j:Int)<18446744073709551616;omega,by show 0<=r3/\r3<18446744073709551616;omega,by show 0<=(0:Int)/\(0:Int)<18446744073709551616;omega⟩ SQ;rw[gq]at DE;have Av:=ag DE;have hq:cI NN (aY j) ⟨1,(j:Int),r3,0⟩=(aY (j+1),0,0):=by rw[<-DF];exact zO ae
    have HF:=ag (And.intro wP (And.intro hO (And.intro hA (And.intro hk hC))));have HQ:=ag hq;have Xy:Hid (az (aY (j+1))=az (aY j)++[.int .u64 (j:Int), .int .u64 r3]):=by show _=_;rw[gX,DF];simp[az]
    clear hR wP hO hA hk hC SN M9 Hh hq DE gq DF
    go_wp2_with (first
     |(go_at_call 12;(with_reducible refine Av.out.mono ?_);rintro e w2 ⟨gA,oA,cm,g1,a,bg,en,Ex,N2,Ed,XJ,L2,Tr2,ZX,rfl,x1,x2,xP,wO,Ra,fC,cz⟩;have pA:=ag wO;have Hq:=ag (And.intro Ra (And.intro fC cz));have m6:=xP.cell 9;rw[HQ.out]at m6;have ml:=xP.lt;have w_:Hid (Sl 45 2 w2 A j c (az (aY j))):=(HF.out.2.1).keep (λb hb=>(cz.block b (by have h9:=HF.out.2.1.lt hb;simp;omega) (λhx=>by rw[bc (HF.out.2.1.lt hb)]at hx;have h9:=(HF.out.2.2.1 b hb).1;omega)).trans (d_ wr _ b (HF.out.2.1.lt hb)));have Sk:Hid (w.heap.size<=w2.heap.size):=(by have h7:=HF.out.2.2.2.2.size;have h8:=cz.size;simp at h8;show _<=_;omega);clear xP wO Ra fC cz)
     |(at_builtin;refine ay rfl (.tmp 41) (.tmp 48) 42 rfl 45 (.agg #[.int .u64 0, .int .u64 0]) 2 16 rfl ae underlying42 dX ae A j c (az (aY j)) ⟨w2.heap.size,0,none⟩ 1 1 [.int .u64 (j:Int), .int .u64 r3] rfl rfl (w_.out.keep (λb hb=>d_ _ _ b (w_.out.lt hb))) rfl ae (dT w2 45 _) (ir.1 rfl) ae ?_;intro A3 c3 w3 GK fo R0 V2))
    refine⟨⟨j+1,A3,c3,by omega,by go_num,rfl,?_⟩,by simp[intOf];omega⟩;obtain⟨wP,hO,hA,hk,hC⟩:=HF.out;obtain⟨Ra,fC,cz⟩:=Hq.out;have wO:=pA.out;rw[HQ.out]at wO;have s1:=hC.size;have s2:wr.heap.size+1<=w2.heap.size:=by have:=cz.size;simpa using this
    have o7:Ch (ah A) w2 w3:=(Ch.au (S:=ah A) (ai (bZ _ _) _)).trans fo.out (λb hb _=>hb)
    have cL:∀b,ah A b->Ex b=1/\w.heap.size<=b/\b<wr.heap.size:=λb hb=>by
     have h2:=hO.lt hb;refine⟨?_,(hA b hb).2,h2⟩;rw[fC b (by simp;omega),bc h2];exact(hA b hb).1
    have h0:=HW0.out;have Va:=wO.RG o7 (λb _ hb=>⟨(cL b hb).1,by have:=(cL b hb).2.1;omega⟩);refine⟨_,N2,Ed,XJ,L2,Tr2,ZX,Va,by omega,by rw[Xy.out];exact GK.out,λb hb=> ?_,λb hb=> ?_,?_⟩
    . rcases R0.out b hb with h1|h1
      . obtain⟨g1,g2,g3⟩:=cL b h1
        rw[bc ae];exact⟨g1,g2⟩
      . exact⟨gD (by rw[h1];simp) (GK.out.lt hb),by rw[h1];simp;omega⟩
    . rw[bc ae,fC b (by simp;omega),bc ae];exact hk b hb
    . refine(hC.trans ((Ch.au (S:=λb=>iY dL wr _ 1 b=0\/iY dL wr _ 1 b=2) (ai (bZ _ _) _)).trans cz (λb hb _=>hb)) (λb hb xm=> ?_)).trans o7 (λb hb xm=> ?_)
      . rw[bc ae,hk b xm]at hb;exact hb
      . have:=(cL b hb).2.1;omega
  . obtain rfl:j=m:=by omega
    have HI:=ag hI;clear hI;go_wp2;exact bH (v:= .tuple #[.slice A j c, .bool true]) (by simp[results,results28,go_sem]) rfl ⟨A,c,rfl,HI.out⟩
end
end Go.Proofs.YtjkpjakodomnmaaGreatDoor
