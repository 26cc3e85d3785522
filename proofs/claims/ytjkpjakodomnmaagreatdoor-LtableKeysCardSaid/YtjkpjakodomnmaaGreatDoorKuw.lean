/- The law LtableKeys (merged). -/
import Derived.Test.YtjkpjakodomnmaaGreatDoorKuv
import Derived.Test.YtjkpjakodomnmaaGreatDoorKul
set_option linter.unusedVariables false
set_option linter.unusedSimpArgs false
set_option maxRecDepth 100000
set_option maxHeartbeats 16000000
namespace Go.Proofs.YtjkpjakodomnmaaGreatDoor
open Go.RowKit Go.Proofs.Tryz
theorem OB(x:Int)(h:0<=x/\x<18446744073709551616):bits .and .u64 x 255=x%256:=by
 obtain⟨n,rfl⟩:=vr h.1;have e:=Fe n 255 ae ae;rw[show n&&&255=n%2^8 from P6 n 8]at e;have e':bits .and .u64 (n:Int) 255=((n%2^8:Nat):Int):=e;rw[e'];omega
def CS6(k o:Int):List aW:=[⟨1,0,k,1,0⟩,⟨3,0,k,2,1⟩,⟨0,0,k,0,0⟩,⟨1,1,o,5,0⟩,⟨2,1,o,0,0⟩,⟨0,1,o,0,0⟩]
def CV6(k o:Int):Array Value:= #[.int .i64 1, .int .i64 0, .int .u64 k, .int .u64 1, .int .u64 0, .int .i64 3, .int .i64 0, .int .u64 k, .int .u64 2, .int .u64 1, .int .i64 0, .int .i64 0, .int .u64 k, .int .u64 0, .int .u64 0, .int .i64 1, .int .i64 1, .int .u64 o, .int .u64 5, .int .u64 0, .int .i64 2, .int .i64 1, .int .u64 o, .int .u64 0, .int .u64 0, .int .i64 0, .int .i64 1, .int .u64 o, .int .u64 0, .int .u64 0]
theorem Zcv{κ:Nat->Nat}{w:World}{g:Nat}{k o:Int}(h:CB w g 33 (CV6 k o))(hk:κ g=1):Hm κ w (some ⟨g,0,none⟩) 6 6 (CS6 k o):=by
 refine⟨rfl,a_ _,λ_=>⟨g,0,rfl,hk,h.lt,λi hi=> ?_⟩⟩;have wL:i=0\/i=1\/i=2\/i=3\/i=4\/i=5:=by omega
 rcases wL with rfl|rfl|rfl|rfl|rfl|rfl
 . exact⟨h.cell 0,h.cell 1,h.cell 2,h.cell 3,h.cell 4⟩
 . exact⟨h.cell 5,h.cell 6,h.cell 7,h.cell 8,h.cell 9⟩
 . exact⟨h.cell 10,h.cell 11,h.cell 12,h.cell 13,h.cell 14⟩
 . exact⟨h.cell 15,h.cell 16,h.cell 17,h.cell 18,h.cell 19⟩
 . exact⟨h.cell 20,h.cell 21,h.cell 22,h.cell 23,h.cell 24⟩
 . exact⟨h.cell 25,h.cell 26,h.cell 27,h.cell 28,h.cell 29⟩
theorem Zb3{k o:Int}(hk:KR k)(ho:KR o):uI ((CS6 k o).take 7)=[(⟨1,k,1,0⟩,0),(⟨3,k,2,1⟩,0),(⟨0,k,0,0⟩,0),(⟨1,o,5,0⟩,1),(⟨2,o,0,0⟩,1),(⟨0,o,0,0⟩,1)]:=by
 have e1:k%1099511627776=k:=PF hk.1 hk.2;have e2:o%1099511627776=o:=PF ho.1 ho.2;show [(WA 1 k 1 0,_),(WA 3 k 2 1,_),(WA 0 k 0 0,_),(WA 1 o 5 0,_),(WA 2 o 0 0,_),(WA 0 o 0 0,_)]=_
 unfold WA;rw[e1,e2];rfl
def KeQ(k o:Int)(w:World)(A:Option Addr):Prop:=
 ∀i,i<6->∃gS oS g a bg en,∃c:TC,A=some ⟨gS,oS,none⟩/\gS<w.heap.size/\w.cell? ⟨gS,oS+i,none⟩=some (.pointer (some ⟨g,0,none⟩))/\
  CB w g 40 #[.pointer (some ⟨a,0,none⟩), .int .i64 (c.kind:Int), .int .u64 c.key, .int .u64 c.val, .int .u64 c.old, .int .i64 bg, .int .i64 en, .bool true, .int .u64 (Dw k o c).1, .int .i64 (Dw k o c).2, .bool true, .bool true]/\(c∈I0 k\/c∈IZ o)
def KeP(q:Nat)(k o:Int)(w:World)(e:Ending)(w':World):Prop:=
 ∃Am cm,e= .returned (.tuple #[.slice Am 6 cm, .bool true])/\KeQ k o w' Am/\(∀W,Below w'.heap.size w' W->Calls prog 14 #[.pointer (some ⟨q,0,none⟩)] W (nN [(k,2)] W))/\Below w.heap.size w w'
theorem Ur{w w2:World}{κ:Nat->Nat}{p d q n lines NN N:Nat}{t:Nat->Nat}{σ:PwS}{xs:List Int}{L:Nat->Int}{Tr:Nat->TT}{fl:List Nat}(ZI:o_ κ p d q n lines NN t w2 [] N σ xs L Tr fl)(hN:N<=600)(iX:6<NN)(hb:Below w.heap.size w w2)(hk:∀b,b<w.heap.size->κ b=1)
 {k o:Int} (Jh:KR k) (SI:KR o) (uV:k≠o) (Ap:Option Addr) (np cp:Nat) (ps:List Int) (lZ:ps.length=np) (MN:np<9223372036854775808) (FV:Rd .i64 w Ap ps) (AF:∀z∈ps,-9223372036854775808<=z/\z<9223372036854775808):
 Calls prog 12 #[.pointer (some ⟨q,0,none⟩), .slice (some ⟨w2.heap.size,0,none⟩) 6 6, .slice Ap np cp, .bool true] (w2.alloc (.cells (CV6 k o) 33)) (KeP q k o w):=by
 have hs:=hb.size;have dy:Below w2.heap.size w2 (w2.alloc (.cells (CV6 k o) 33)):=ai (bZ _ _) _;have hR:=ZI.ch dy;have hL:=Zcv (κ:=iY κ w2 (w2.alloc (.cells (CV6 k o) 33)) 1) (CB.new w2 33 (CV6 k o)) (gD (a_ _) smQ);have hkN:∀b,b<w.heap.size->iY κ w2 (w2.alloc (.cells (CV6 k o) 33)) 1 b=1:=λb aM=>by rw[bc ae];exact hk b aM
 have hbN:=hb.trans (dy.mono hs);refine(uD hR _ 6 6 (CS6 k o) ae hL (λc hc=> ?_) Ap np cp ps lZ MN (FV.below hbN) (λb hb aM=> ?_) AF (by show N+6778*6<1000000;omega)).mono ?_
 . obtain⟨k1,k2⟩:=Jh
   obtain⟨o1,o2⟩:=SI;simp only[CS6,dr,fH,gF]at hc;rcases hc with rfl|rfl|rfl|rfl|rfl|rfl<;>(refine⟨⟨?_,?_⟩,⟨?_,?_⟩,⟨?_,?_⟩,⟨?_,?_⟩,⟨?_,?_⟩⟩<;>dsimp only<;>omega)
 . rcases FV with h|⟨b2,off,h1,h2,h3⟩
   . rw[h]at lZ;simp at lZ;omega
   . rw[h1]at hb
     have:b2=b:=by simpa [ah]using hb
     rw[<-this];exact hkN b2 h2
 . rintro e w3 ⟨Am,cm,ms,ord,dL,N',σ',dz,L',wY,eG,rfl,Q9,hM,hO,jC,hC,hN'⟩
   rw[Zb3 Jh SI]at hO;obtain⟨h6,oo,bh⟩:=hO.keys (k:=k) (o:=o) uV (by show 6<NN;exact iX) rfl rfl rfl;have ZN:(aF NN).NN=NN:=rfl;rw[ZN]at bh;rw[bh]at Q9;have hV:=Q9.Ef;rw[h6];refine⟨Am,cm,rfl,λi hi=> ?_,λW hW=>CN (hV.bl hW),JK hbN hkN hC⟩;obtain⟨gs,oz,hS,hg,_,hm⟩:=hM;have fU:i<ms.length:=by omega
   have QX:ms[i]?=some ms[i]:=dG fU;obtain⟨hf,vJ⟩:=oo _ (fq fU);obtain⟨oM,_⟩:=hm i _ QX;obtain⟨gS,oS,hA,eh,hc⟩:=hS.at_ (j:=i) (by simp[hg,fU])
   have hx:(gs.map xF)[i]'(by simp[hg,fU])= .pointer (some ⟨gs.getD i 0,0,none⟩):=by
    rw[vo,eY,dG (by rw[hg];exact fU)];rfl
   rw[hx]at hc;refine⟨gS,oS,gs.getD i 0,oz.getD i 0,ms[i].bg,ms[i].en,ms[i].c,hA,eh,hc,?_,vJ⟩
   have Zd:zi ms[i] (oz.getD i 0)= #[.pointer (some ⟨oz.getD i 0,0,none⟩), .int .i64 (ms[i].c.kind:Int), .int .u64 ms[i].c.key, .int .u64 ms[i].c.val, .int .u64 ms[i].c.old, .int .i64 ms[i].bg, .int .i64 ms[i].en, .bool true, .int .u64 (Dw k o ms[i].c).1, .int .i64 (Dw k o ms[i].c).2, .bool true, .bool true]:=by
    unfold zi;rw[hf];rfl
   rw[Zd]at oM;exact oM
theorem zt(w:World)(hT:Tab w)(key:Int)(hky:0<=key/\key<18446744073709551616)(other:Int)(QH:0<=other/\other<18446744073709551616)
 (Ap:Option Addr) (np cp:Nat) (ps:List Int) (lZ:ps.length=np) (MN:np<9223372036854775808) (FV:Rd .i64 w Ap ps) (AF:∀z∈ps,-9223372036854775808<=z/\z<9223372036854775808):
 Calls prog 3 #[.int .u64 key, .int .u64 other, .slice Ap np cp] w λe w'=>e= .returned (.bool true)/\Below w.heap.size w w':=by
 have BH:=ag (j8 w hT 2 ae);have GR:=ag (λ(W:World) (hW:Below w.heap.size w W)=>lD W (hT.below hW));have ek:=OB key hky;have eo:=OB other QH;obtain⟨k,hk⟩:=aH (key%256);obtain⟨o1,Bj⟩:=aH (other%256);obtain⟨o,ho⟩:=aH (256+o1);rw[hk]at ek;rw[Bj]at eo;have eo2:IntKind.u64.wrap (256+o1)=o:=by rw[ho];exact bY _ ae
 have HKO:Hid (KR k/\KR o/\k≠o):=⟨⟨by omega,by omega⟩,⟨by omega,by omega⟩,by omega⟩;have Za:¬k=o:=HKO.out.2.2;have QM:¬o=k:=λh=>Za h.symm
 have hPS:=ag (And.intro lZ (And.intro MN (And.intro FV AF)));clear hT hky QH lZ MN FV AF hk Bj ho;go_enter func3,ntmps3
 go_upto_region 5 with(first
  |(go_at_call 10;(with_reducible refine BH.out.mono ?_);rintro e w1 ⟨d,p,q,n,lines,NN,t,σ,N,xs,L,Tr,fl,rfl,hl,oL,nP,hR,hN,eD⟩;have dZ:=ag eD;have HX:=ag (And.intro oL (And.intro hR (And.intro hN hl)));clear hl oL nP hR hN eD)
  |(go_at_call 11;refine(GR.out _ dZ.out).mono ?_;rintro e w2 ⟨rfl,dy⟩;have xx:=ag dy;clear dy))
 obtain⟨κ,hR,hb,hk⟩:=RS HX.out.1 HX.out.2.1 dZ.out xx.out;have DE:=Ur (w:=w) hR HX.out.2.2.1 (by have h1:=hR.qu.hP;have h2:=HX.out.2.2.2;omega) hb hk HKO.out.1 HKO.out.2.1 HKO.out.2.2 Ap np cp ps hPS.out.1 hPS.out.2.1 hPS.out.2.2.1 hPS.out.2.2.2;unfold CV6 at DE;have Av:=ag DE;clear hR hb hk HX dZ xx BH GR DE ek eo eo2;go_upto_region 8 with(go_at_call 12;(with_reducible refine Av.out.mono ?_);rintro e w5 ⟨Am,cm,rfl,hQ,Vf,AH⟩;have HQ:=ag hQ;have iV:=ag Vf;have lJ:=ag AH;clear hQ Vf AH)
 clear Av;go_wp2;go_loopw [60,13,14,15,61,62,63,64,65,66,67,68,69,70,71,72,73,74,75,76,77,78,79,80,81,82,83,84,85,86,87,88,89,90,91,92,93,94,95,96,97,98,99,100,101,102,103,104,105,106,107,108,109,110,111,112,113,114,115,116,117,118,119,120,121,122,123,124,125,126,127,128,129,130,131,132,133,134,135,136,137,138,139,140,141,142,143,144,145,146,147,148,149,150,151] (λi _ _ _ _ _ _ _ _ _ _ _ _ _ _ _ _ _ _ _ _ _ _ _ _ _ _ _ _ _ _ _ _ _ _ _ _ _ _ _ _ _ _ _ _ _ _ _ _ _ _ _ _ _ _ _ _ _ _ _ _ _ _ _ _ _ _ _ _ _ _ _ _ _ _ _ _ _ _ _ _ _ _ _ _ _ _ _ _ _ _ _ _ _ _ wr=>∃(j:Nat),j<=6/\i= .int .i64 j/\w5=wr) (λi _ _ _ _ _ _ _ _ _ _ _ _ _ _ _ _ _ _ _ _ _ _ _ _ _ _ _ _ _ _ _ _ _ _ _ _ _ _ _ _ _ _ _ _ _ _ _ _ _ _ _ _ _ _ _ _ _ _ _ _ _ _ _ _ _ _ _ _ _ _ _ _ _ _ _ _ _ _ _ _ _ _ _ _ _ _ _ _ _ _ _ _ _ _ _=>6-(intOf i).toNat)
 case atStart=>exact⟨0,by omega,rfl,rfl⟩
 case round=>
  obtain⟨j,hj,rfl,rfl⟩:=hrel;by_cases aM:j<6
  . have dx:(j:Int)<6:=by omega
    have MU:(0:Int)<=(j:Int):=by omega
    have e3:IntKind.i64.wrap ((j:Int)+1)=(j:Int)+1:=b9 _ ae;obtain⟨gS,oS,g,a,bg,en,c,rfl,hgS,hcS,mN,vJ⟩:=HQ.out j aM;have c1:=mN.cell 1;have c2:=mN.cell 2;have c8:=mN.cell 8;have c9:=mN.cell 9;have cl:=mN.lt;clear mN;simp only[I0,IZ,dr,fH,gF]at vJ;rcases vJ with(rfl|rfl|rfl)|(rfl|rfl|rfl);all_goals(simp[Dw,Za,QM]at c1 c2 c8 c9)
    all_goals go_wp2
    all_goals exact⟨⟨j+1,by omega,by go_num,by trivial⟩,by simp[intOf];omega⟩
  . obtain rfl:j=6:=by omega
    clear aM;unfold nN at iV
    go_wp2_with (first
     |(go_at_call 14;(with_reducible refine(iV.out _ aC).mono ?_);rintro e w6 ⟨A4,c4,rfl,nI,_,kH⟩;have HR4:=ag nI;have mA:=ag kH;obtain⟨x,rfl⟩:=aE kH;clear nI kH)
     |(go_at_call 13;have G5:=kT (w:=x.w.alloc (.cells #[.int .u64 k, .int .u64 2] 45)) A4 (some ⟨x.w.heap.size,0,none⟩) 1 c4 1 1 [(k,2)] [(k,2)] rfl rfl ⟨by omega,by omega⟩ (HR4.out.below (ai (bZ _ _) _)) (qO _ _ _);rw[kx rfl]at G5;(with_reducible refine G5.mono ?_);rintro e w7 ⟨rfl,Eo⟩;clear G5;have AM:=ag Eo;clear Eo))
    exact bH (v:= .bool true) (by simp[results,results3,go_sem]) rfl ⟨rfl,lJ.out.trans ((mA.out.trans (((ai (bZ _ _) _:Below x.w.heap.size x.w _).trans (AM.out.mono smQ)).mono mA.out.size)).mono lJ.out.size)⟩
end Go.Proofs.YtjkpjakodomnmaaGreatDoor
