/- The law LtableFills (merged). -/
import Derived.Test.YtjkpjakodomnmaaGreatDoorKuk
import Derived.Test.YtjkpjakodomnmaaGreatDoorKul
set_option linter.unusedVariables false
set_option linter.unusedSimpArgs false
set_option maxRecDepth 100000
set_option maxHeartbeats 16000000
namespace Go.Proofs.YtjkpjakodomnmaaGreatDoor
open Go.RowKit Go.Proofs.Tryz
theorem Ug(n:Nat):n|||1=n/2*2+1:=by
 apply Di
 intro i;rw[Nat.testBit_or];cases i with
 |zero=>simp[Nat.testBit_zero]
 |succ i=>
  rw[PA,PA,PA];have e1:(n/2*2+1)/2=n/2:=by omega
  rw[e1];simp
theorem Tl(x:Int)(h:0<=x/\x<18446744073709551616):bits .or .u64 x 1=x/2*2+1:=by
 obtain⟨n,rfl⟩:=vr h.1;have e:=BW n 1 ae ae;rw[Ug]at e;have e':bits .or .u64 (n:Int) 1=((n/2*2+1:Nat):Int):=e;rw[e'];omega
def Tg(w:World)(p d q n lines NN:Nat)(t:Nat->Nat)(start st:Int)(j:Nat)(wr:World):Prop:=
 ∃(κ:Nat->Nat) (vs:List (Int×Int)) (N:Nat) (σ:PwS) (xs:List Int) (L:Nat->Int) (Tr:Nat->TT) (fl:List Nat),o_ κ p d q n lines NN t wr vs N σ xs L Tr fl/\N<=600+6778*j/\(j<=NN->We start st j vs)/\(j=NN+1->vs.length=NN)/\(∀b,b<w.heap.size->κ b=1)/\Below w.heap.size w wr
section
variable{p d q n lines NN:Nat}{t:Nat->Nat}{start st:Int}{j:Nat}{w wr:World}
theorem Tg.bl{wr':World}(h:Tg w p d q n lines NN t start st j wr)(hB:Below wr.heap.size wr wr'):Tg w p d q n lines NN t start st j wr':=by
 obtain⟨κ,vs,N,σ,xs,L,Tr,fl,hR,wP,hS,hF,iy,hb⟩:=h;have hs:=hb.size;exact⟨_,vs,N,σ,xs,L,Tr,fl,hR.ch hB,wP,hS,hF,λb bG=>by rw[bc ae];exact iy b bG,hb.trans (hB.mono hs)⟩
theorem Tg.put(h:Tg w p d q n lines NN t start st j wr)(hs:st%2=1)(hN:NN<=26)(hj:j<=NN)(key:Int)(hk:key%1099511627776=rJ start st j)(Jh:0<=key/\key<18446744073709551616):
 Calls prog 12 #[.pointer (some ⟨q,0,none⟩), .slice (some ⟨wr.heap.size,0,none⟩) 1 1, .slice none 0 0, .bool true] (wr.alloc (.cells #[.int .i64 1, .int .i64 0, .int .u64 key, .int .u64 (j:Int), .int .u64 0] 33)) λe w2=>
  ∃(gA oA cm g1:Nat) (er:Int),e= .returned (.tuple #[.slice (some ⟨gA,oA,none⟩) 1 cm, .bool true])/\w2.cell? ⟨gA,oA,none⟩=some (.pointer (some ⟨g1,0,none⟩))/\gA<w2.heap.size/\w2.cell? ⟨g1,9,none⟩=some (.int .i64 er)/\g1<w2.heap.size/\((j<NN/\er=0)\/(j=NN/\er=4))/\Tg w p d q n lines NN t start st (j+1) w2:=by
 obtain⟨κ,vs,N,σ,xs,L,Tr,fl,hR,wP,hS,hF,iy,hB⟩:=h;have SN:Below wr.heap.size wr (wr.alloc (.cells #[.int .i64 1, .int .i64 0, .int .u64 key, .int .u64 (j:Int), .int .u64 0] 33)):=ai (bZ _ _) _;have M9:=hR.ch SN;have Hh:=Un (κ:=iY κ wr (wr.alloc (.cells #[.int .i64 1, .int .i64 0, .int .u64 key, .int .u64 (j:Int), .int .u64 0] 33)) 1) (CB.new wr 33 #[.int .i64 1, .int .i64 0, .int .u64 key, .int .u64 (j:Int), .int .u64 0]) (gD (a_ _) smQ)
 have gq:(⟨1,0,key,(j:Int),0⟩:aW).c=⟨1,rJ start st j,(j:Int),0⟩:=by
  show(⟨((1:Int)%4).toNat,key%1099511627776,(j:Int)%1099511627776,(0:Int)%1099511627776⟩:TC)=_
  rw[hk];congr 1;omega
 have DE:=xR M9 (some ⟨wr.heap.size,0,none⟩) 1 ⟨1,0,key,(j:Int),0⟩ Hh ⟨by show -9223372036854775808<=(1:Int)/\(1:Int)<9223372036854775808;omega,by show -9223372036854775808<=(0:Int)/\(0:Int)<9223372036854775808;omega,Jh,by show 0<=(j:Int)/\(j:Int)<18446744073709551616;omega,by show 0<=(0:Int)/\(0:Int)<18446744073709551616;omega⟩ ae;rw[gq]at DE;refine DE.mono ?_;rintro e w2 ⟨gA,oA,cm,g1,a,bg,en,Ex,N2,Ed,XJ,L2,Tr2,ZX,rfl,x1,x2,xP,wO,Ra,fC,cz⟩;have vI:=hB.size;have ZbA:∀b,b<w.heap.size->Ex b=1:=λb hb=>by rw[fC b (by simp;omega),bc ae];exact iy b hb
 have wQ:Below w.heap.size w w2:=JK (hB.trans (SN.mono vI)) (λb hb=>by rw[bc ae];exact iy b hb) cz;have Q2:w2.cell? ⟨g1,9,none⟩=some (.int .i64 (cI NN vs ⟨1,rJ start st j,(j:Int),0⟩).2.2):=xP.cell 9;have eh:=xP.lt;clear xP;have dS:N2<=600+6778*(j+1):=f_ Ra (f_ (Nat.add_le_add_right wP _) (BZ (by rw[Nat.mul_add,sL])));by_cases aM:j<NN
 . obtain⟨q1,q2⟩:=(hS ae).next hs aM ae (j:Int)
   have q1b:=bP Prod.snd q1;dsimp only at q1b;have Xj:Tg w p d q n lines NN t start st (j+1) w2:=⟨Ex,(cI NN vs ⟨1,rJ start st j,(j:Int),0⟩).1,N2,Ed,XJ,L2,Tr2,ZX,wO,dS,λ_=>q2,λh=>by omega,ZbA,wQ⟩;rw[q1b]at Q2;exact⟨gA,oA,cm,g1,0,rfl,x1,x2,Q2,eh, .inl ⟨aM,rfl⟩,Xj⟩
 . obtain rfl:j=NN:=by omega
   have q1:=(hS ae).full ae (j:Int);rw[q1]at wO Q2;have Xj:Tg w p d q n lines j t start st (j+1) w2:=⟨Ex,vs,N2,Ed,XJ,L2,Tr2,ZX,wO,dS,λh=>by omega,λ_=>(hS ae).ln,ZbA,wQ⟩;exact⟨gA,oA,cm,g1,4,rfl,x1,x2,Q2,eh, .inr ⟨rfl,rfl⟩,Xj⟩
end
theorem xk(w:World)(hT:Tab w)(z:Int)(hz: -9223372036854775808<=z/\z<9223372036854775808)(start:Int)(bh:0<=start/\start<18446744073709551616)(step:Int)(K6:0<=step/\step<18446744073709551616):
 Calls prog 6 #[.int .i64 z, .int .u64 start, .int .u64 step] w λe w'=>e= .returned (.bool true)/\Below w.heap.size w w':=by
 have BH:=ag (j8 w hT z hz);have GR:=ag (λ(W:World) (hW:Below w.heap.size w W)=>lD W (hT.below hW));have eor:=Tl step K6;obtain⟨st,Zbi⟩:=aH (step/2*2+1);rw[Zbi]at eor;have ZcR:Hid (st%2=1/\0<=st/\st<18446744073709551616):=by refine⟨?_,?_,?_⟩<;>omega
 have fX:=ag bh;clear hT hz K6 Zbi bh;go_enter func6,ntmps6
 go_upto_region 5 with(first
  |(go_at_call 10;(with_reducible refine BH.out.mono ?_);rintro e w1 ⟨d,p,q,n,lines,NN,t,σ,N,xs,L,Tr,fl,rfl,hl,oL,nP,hR,hN,eD⟩;have dZ:=ag eD;have HX:=ag (And.intro oL (And.intro hR hN));clear hl oL nP hR hN eD)
  |(go_at_call 11;refine(GR.out _ dZ.out).mono ?_;rintro e w2 ⟨rfl,dy⟩;have xx:=ag dy;clear dy))
 obtain⟨κ,hR,hb,hk⟩:=RS HX.out.1 HX.out.2.1 dZ.out xx.out;have jc:Hid (Tg w p d q n lines NN t start st 0 w2):=⟨κ,[],N,σ,xs,L,Tr,fl,hR,by have:=HX.out.2.2;omega,λ_=>We.start,λh=>by omega,hk,hb⟩;have iX:NN<=26:=by have:=hR.qu.hP;omega
 have rS:=ag (kZ hR.Ef);have e1:IntKind.i64.wrap ((NN:Int)+1)=(NN:Int)+1:=b9 _ ae;clear hR hb hk HX dZ xx BH GR eor;go_wp2_with (go_at_call 25;(with_reducible refine rS.out.mono ?_);rintro e w' ⟨rfl,rfl⟩)
 go_loopw [32,10,11,12,33,34,35,36,37,38,39,40,41,42,43,44,45,46,47,48,49,50,51,52,53,54,55,56,57,58,59,60,61,62,63,64,65,66,67,68,69,70,71,72,73,74,75,76,77,78,79,80,81,82,83] (λi _ _ _ _ _ _ _ _ _ _ _ _ _ _ _ _ _ _ _ _ _ _ _ _ _ _ _ _ _ _ _ _ _ _ _ _ _ _ _ _ _ _ _ _ _ _ _ _ _ _ _ _ _ _ wr=>∃(j:Nat),j<=NN+1/\i= .int .i64 j/\Tg w p d q n lines NN t start st j wr) (λi _ _ _ _ _ _ _ _ _ _ _ _ _ _ _ _ _ _ _ _ _ _ _ _ _ _ _ _ _ _ _ _ _ _ _ _ _ _ _ _ _ _ _ _ _ _ _ _ _ _ _ _ _ _ _=>NN+1-(intOf i).toNat)
 case atStart=>exact⟨0,by omega,rfl,jc.out⟩
 case round=>
  clear jc;obtain⟨j,hj,rfl,hI⟩:=hrel;have HI:=ag hI;by_cases aM:j<NN+1
  . have dx:(j:Int)<(NN:Int)+1:=by omega
    have e2:IntKind.u64.wrap (j:Int)=(j:Int):=bY _ ae;have e3:IntKind.i64.wrap ((j:Int)+1)=(j:Int)+1:=b9 _ ae;obtain⟨key,zG⟩:=aH (IntKind.u64.wrap (start+IntKind.u64.wrap ((j:Int)*st)))
    have iy:key%1099511627776=rJ start st j:=by
     rw[<-zG,Cf,Cf];unfold rJ;generalize (j:Int)*st=pr;omega
    have fC:0<=key/\key<18446744073709551616:=by
     rw[<-zG,Cf];omega
    have Av:=ag (hI.put ZcR.out.1 iX ae key iy fC);clear hI iy fC;go_upto_region 9 with(go_at_call 12;(with_reducible refine Av.out.mono ?_);rintro e w3 ⟨gA,oA,cm,g1,er,rfl,x1,x2,x3,x4,ig,Rb⟩;have Om:=ag Rb;clear Rb)
    have HCB:Hid (∀W,Below w3.heap.size w3 W->Calls prog 25 #[.pointer (some ⟨q,0,none⟩)] W λe w'=>e= .returned (.int .i64 (NN:Int))/\W=w'):=λW hW=>by
     obtain⟨κ3,vs3,N3,σ3,xs3,L3,Tr3,fl3,Va,_⟩:=Om.out;exact kZ (Va.Ef.bl hW)
    rcases ig with⟨hl,rfl⟩|⟨hl,rfl⟩
    . have h1:(j:Int)<(NN:Int):=by omega
      have h2:¬(j:Int)=(NN:Int):=by omega
      have h3:((j:Int)==(NN:Int))=false:=by simp;omega
      have h4:decide ((j:Int)=(NN:Int))=false:=oX h2;go_quiet ((go_at_call 25;with_reducible exact mE (HCB.out _ aC)))
      all_goals go_wp2
      all_goals exact⟨⟨j+1,by omega,by go_num,Om.out.bl aC⟩,by simp[intOf];omega⟩
    . subst hl
      have h1:¬(j:Int)<(j:Int):=by omega
      go_quiet ((go_at_call 25;with_reducible exact mE (HCB.out _ aC)))
      all_goals go_wp2
      all_goals exact⟨⟨j+1,by omega,by go_num,Om.out.bl aC⟩,by(simp[intOf])<;>omega⟩
  . obtain rfl:j=NN+1:=by omega
    obtain⟨κ3,vs3,N3,σ3,xs3,L3,Tr3,fl3,Va,_,_,hF3,wL,xO⟩:=HI.out;have jQ:=ag (EO Va.Ef);rw[hF3 rfl]at jQ;unfold LB at jQ;have HCB:Hid (∀W,Below wr.heap.size wr W->Calls prog 25 #[.pointer (some ⟨q,0,none⟩)] W λe w'=>e= .returned (.int .i64 (NN:Int))/\W=w'):=λW hW=>kZ (Va.Ef.bl hW)
    have Hu:=ag xO;clear hI Va hF3 wL xO
    go_wp2_with (first
     |(go_at_call 27;(with_reducible refine jQ.out.mono ?_);rintro e w5 ⟨rfl,hb⟩;have lJ:=ag hb;obtain⟨y,rfl⟩:=aE hb;clear hb)
     |(go_at_call 25;(with_reducible refine(HCB.out _ aC).mono ?_);rintro e w' ⟨rfl,rfl⟩))
    exact bH (v:= .bool true) (by simp[results,results6,go_sem]) rfl ⟨rfl,Hu.out.trans (lJ.out.mono Hu.out.size)⟩
end Go.Proofs.YtjkpjakodomnmaaGreatDoor
