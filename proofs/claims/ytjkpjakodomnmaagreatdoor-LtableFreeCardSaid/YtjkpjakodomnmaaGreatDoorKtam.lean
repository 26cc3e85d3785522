/- The base, part 13 (merged). -/
import Derived.Test.YtjkpjakodomnmaaGreatDoorKtal
set_option linter.unusedVariables false
set_option linter.unusedSimpArgs false
set_option maxRecDepth 100000
set_option maxHeartbeats 16000000
namespace Go.Proofs.YtjkpjakodomnmaaGreatDoor
open Go.RowKit Go.Proofs.Tryz
theorem ER(w:World)(line lines n:Nat)(hl:line<1000)(h4:8<=lines)(ju:line+lines<=n)(hn:n<1000):
 Calls prog 58 #[.int .i64 (line:Int), .int .i64 (lines:Int), .int .u64 ((n:Int)*64)] w λe w'=>e= .returned (.bool true)/\w=w':=by
 have h1:0<=(line:Int):=by omega
 have h2:8<=(lines:Int):=by omega
 have h3:(lines:Int)<=4096:=by omega
 have e1:IntKind.u64.wrap (line:Int)=(line:Int):=bY _ ae;have e2:IntKind.u64.wrap (lines:Int)=(lines:Int):=bY _ ae;have e3:IntKind.u64.wrap ((line:Int)+(lines:Int))=(line:Int)+(lines:Int):=bY _ ae;have e4:((n:Int)*64).tdiv 64=(n:Int):=Int.mul_tdiv_cancel _ ae;have e5:(line:Int)+(lines:Int)<=(n:Int):=by omega
 go_enter func58,ntmps58
 go_wp2;go_ret;exact⟨rfl,rfl⟩
theorem EP(w:World)(lines NN:Nat)(h:8<=lines/\lines<=15)(hN:2*(lines-2)=NN):
 Calls prog 59 #[.int .i64 32, .int .i64 (lines:Int)] w λe w'=>e= .returned (uo NN)/\Below w.heap.size w w':=by
 have e1:IntKind.u64.wrap (lines:Int)=(lines:Int):=bY _ ae;have e2:(lines:Int).tdiv 8=1:=by rw[IC ae];omega
 have e3:IntKind.u64.wrap ((lines:Int)-1)=(lines:Int)-1:=bY _ ae;have e4:IntKind.u64.wrap ((lines:Int)-1-1)=(lines:Int)-1-1:=bY _ ae;have e5:IntKind.u64.wrap (((lines:Int)-1-1)*8)=((lines:Int)-1-1)*8:=bY _ ae;have e6:(((lines:Int)-1-1)*8).tdiv 4=(NN:Int):=by rw[IC ae];omega
 unfold uo;go_enter func59,ntmps59
 go_wp2;exact bH (v:= .agg #[.int .u64 2048, .int .u64 8, .int .u64 (NN:Int)]) (by simp[results,results59,go_sem]) rfl ⟨rfl,by exact aC⟩
def TFm(w:World)(lines NN k:Nat)(A:Option Addr)(cp:Nat)(wr:World):Prop:=
 Sl 95 2 wr A k cp (az (rC lines NN k))/\Below w.heap.size w wr/\∀b,ah A b->w.heap.size<=b
section
variable{F:Nat->Prop}{d:Nat}{t:Nat->Nat}{w w0:World}{S:aq}{n N:Nat}{xs:List Int}
def SrP(F:Nat->Prop)(d:Nat)(t:Nat->Nat)(n:Nat)(xs:List Int)(N:Nat)(w0:World)(r:Ending)(w':World):Prop:=
 r= .returned (.int .i64 0)/\(∃S',DV F d t w' S'/\Clean S' n xs N)/\Ch F w0 w'
theorem stQ(w:World)(A:Option Addr)(m c:Nat)(ws:List (Int×Int))(hn:ws.length=m)(h1:1<=m)(hm:m<256)(hS:Sl 95 2 w A m c (az ws))(hr:∀p∈ws,0<=p.1/\p.1<18446744073709551616)(hs:(starts ws).Pairwise (· <= ·)):Calls prog 56 #[.slice A m c] w (jO w (bD ws)):=by
 have:=lz w A m c ws hn h1 hm hS hr (.inr hs);rwa[Il ws hs]at this
theorem FH(ws:List (Int×Int)):(bD ws).length<=2*ws.length+1:=by
 have h1:=qd (ws:=ws);have h2:=Aa (starts ws);have h3:(starts ws).length=ws.length:=by simp[starts]
 omega
theorem rnQ(h:DV F d t w0 S)(gq:Clean S n xs N){w1 w:World}(eD:Below w0.heap.size w0 w1){ws:List (Int×Int)}{A:Option Addr}{c:Nat}(hS:Sl 164 3 w A (bD ws).length c (bw (bD ws)))(hb:Below w1.heap.size w1 w)(hO:∀b,ah A b->w1.heap.size<=b)(i:Nat)(hi:i<8)
 (hv:∀p∈ws,∃k:Nat,p.1=8*(k:Int)/\k<8*n) (hn:n<=4096) {M:Nat} (hM:N+(2*ws.length+1)<=M) (hM2:M<1000000):Calls prog 57 #[.slice A (bD ws).length c, .iface 87 (.pointer (some ⟨t i,0,none⟩))] w (SrP F d t n (aO xs ws) M w0):=by
 have hl:=FH ws;refine(ZaW h gq (eD.trans (hb.mono eD.size)) A _ c ws rfl hS (λb bG=>by have h1:=hO b bG;have h2:=eD.size;omega) i hi hv hn ae).mono ?_;rintro r w' ⟨h1,⟨S',h2,h3⟩,h4⟩;exact⟨h1,⟨S',h2,⟨h3.good.mono ae,h3.nl,h3.cur,h3.cg,h3.off,h3.armed,h3.bL,h3.err,h3.notes⟩⟩,h4⟩
theorem OW(h:DV F d t w S)(lines NN:Nat)(h4:8<=lines/\lines<=15)(iX:2*(lines-2)=NN)(gq:Clean S (32+lines) xs N)(i:Nat)(hi:i<8)(hN:N+400<1000000):
 Calls prog 38 #[.iface 87 (.pointer (some ⟨t i,0,none⟩)), .int .i64 32, .int .i64 (lines:Int)] w (SrP F d t (32+lines) (yu xs lines NN) (N+400) w):=by
 obtain⟨n,hn⟩:=aH (32+lines);rw[hn]at gq |-;obtain⟨l4,l7⟩:=h4;have R8:=ag (And.intro hn iX);have H:=ag h;have jk:=ag gq
 have S7:Hid (∀W,Below w.heap.size w W->Calls prog 221 #[.pointer (some ⟨t i,0,none⟩)] W λe w'=>e= .returned (.int .u64 ((n:Int)*64))/\W=w'):=λW hW=>by
  have:=Wi (h.below hW) i hi;rwa[gq.nl]at this
 have jx:Hid (∀W,Below w.heap.size w W->Calls prog 65 #[.pointer (some ⟨t i,0,none⟩)] W λe w'=>e= .returned (.int .i64 0)/\W=w'):=λW hW=>by
  have:=LQ (h.below hW) i hi;rwa[gq.err i]at this
 have HIN:Hid (∀W,Calls prog 58 #[.int .i64 32, .int .i64 (lines:Int), .int .u64 ((n:Int)*64)] W λe w'=>e= .returned (.bool true)/\W=w'):=λW=>ER W 32 lines n ae ae ae ae
 have HLY:=ag (λW=>EP W lines NN ⟨l4,l7⟩ iX);have HI:=ag hi;have HN:=ag hN;have iU:Hid (aO (aO (aO xs [(2048,0)]) (rC lines NN (10+4*NN))) [(2048,327831077452)]=yu xs lines NN):=rfl;have hNb:NN<=26:=by omega
 clear h gq hi hN hn iX;unfold uo at HLY;go_enter func38,ntmps38
 go_upto_region 7 with(first
  |(go_at_call 221;(with_reducible refine(S7.out _ aC).mono ?_);rintro e w' ⟨rfl,rfl⟩)
  |(go_at_call 65;(with_reducible refine(jx.out _ aC).mono ?_);rintro e w' ⟨rfl,rfl⟩)
  |(go_at_call 58;(with_reducible refine(HIN.out _).mono ?_);rintro e w' ⟨rfl,rfl⟩)
  |(go_at_call 59;(with_reducible refine(HLY.out _).mono ?_);rintro e w1 ⟨rfl,hb⟩;obtain⟨y,rfl⟩:=aE hb;clear hb))
 have hgB:Below w.heap.size w (y.w.alloc (.cells #[.int .u64 2048, .int .u64 8, .int .u64 (NN:Int)] 113)):=by exact aC
 have hgC:CB (y.w.alloc (.cells #[.int .u64 2048, .int .u64 8, .int .u64 (NN:Int)] 113)) y.w.heap.size 113 #[.int .u64 2048, .int .u64 8, .int .u64 (NN:Int)]:=CB.new _ _ _;have MW:w.heap.size<=y.w.heap.size:=y.size;obtain⟨g,hg⟩:=aH y.w.heap.size;obtain⟨W1,fV⟩:=aH (y.w.alloc (.cells #[.int .u64 2048, .int .u64 8, .int .u64 (NN:Int)] 113));rw[fV,hg]at hgC;rw[fV]at hgB;rw[hg]at MW;rw[fV,hg];clear fV hg;obtain⟨F1,Er⟩:∃F1:Nat->Prop,F1=λb=>F b/\¬b=g:=⟨_,rfl⟩
 have HV1:Hid (DV F1 d t W1 S):=by rw[Er];exact(H.out.below hgB).ch (T:=λ_=>False) (Ch.au (bZ _ _)) (λ_ _ _ hf=>hf)|>λ_=>H.out.less hgB (λb=>b=g) (λb hb=>by subst hb;exact⟨MW,hgC.lt⟩)
 have HF1:Hid (¬F1 g/\(∀b,F1 b->F b)):=by rw[Er];exact⟨λh=>h.2 rfl,λb h=>h.1⟩
 have HGB:=ag hgB;have HGC:=ag hgC;have c0:W1.cell? ⟨g,0,none⟩=some (.int .u64 2048):=hgC.cell 0;have gl:=hgC.lt;clear Er hgB hgC MW H S7 jx HIN HLY
 go_upto_region 8 with(first
  |(go_at_call 56;refine(stQ _ _ 1 1 [(2048,0)] rfl ae ae (pB _ 2048 0) smQ (by simp[starts])).mono ?_;rintro e w1 ⟨A1,c1,rfl,hS1,N7,ZL⟩;have HS1:=ag hS1;have dZ:=ag N7;have HO1:=ag ZL;clear hS1 N7 ZL)
  |(go_at_call 57;go_loud (refine(rnQ HV1.out jk.out (ai (bZ _ _) _) HS1.out dZ.out HO1.out i HI.out (λp hp=>⟨256,by simp at hp;rw[hp];rfl,by have:=R8.out;omega⟩) (by have:=R8.out;omega) (M:=N+10) smQ (by have:=HN.out;omega)).mono ?_;rintro e w2 ⟨rfl,⟨S2,o6,cz⟩,ZbX⟩;have LH:=ag o6;have dh:=ag cz;have Zce:=ag ZbX;clear o6 cz ZbX)))
 have mV:Hid (CB w2 g 113 #[.int .u64 2048, .int .u64 8, .int .u64 (NN:Int)]):=HGC.out.keep (Zce.out.block g HGC.out.lt (λh=>HF1.out.1 h));clear HS1 dZ HO1 c0 gl;have c0:w2.cell? ⟨g,0,none⟩=some (.int .u64 2048):=mV.out.cell 0;have c1:w2.cell? ⟨g,1,none⟩=some (.int .u64 8):=mV.out.cell 1;have gl:=mV.out.lt;have e1:IntKind.u64.wrap (lines:Int)=(lines:Int):=bY _ ae;have e2:IntKind.u64.wrap (2048+8)=2056:=rfl;have e3:IntKind.u64.wrap (2048+16)=2064:=rfl;have Og:Hid (az (rC lines NN 2)=[.int .u64 2056, .int .u64 (lines:Int)]++[.int .u64 2064, .int .u64 1]):=rfl;have HSW:Hid (Sl 95 2 (w2.alloc (.cells #[.int .u64 2056, .int .u64 (lines:Int)] 95)) (some ⟨w2.heap.size,0,none⟩) 1 1 [.int .u64 2056, .int .u64 (lines:Int)]):=pB _ 2056 lines
 have HCT:Hid (∀(k:Nat) (u:Value),([.int .u64 2064, .int .u64 1]:List Value)[k]?=some u->((w2.alloc (.cells #[.int .u64 2056, .int .u64 (lines:Int)] 95)).alloc (.cells #[.int .u64 2064, .int .u64 1] 95)).cell? ((⟨w2.heap.size+1,0,none⟩:Addr).add k)=some u):=by
  have:=jw (w2.alloc (.cells #[.int .u64 2056, .int .u64 (lines:Int)] 95)) 95 (.int .u64 2064) (.int .u64 1);simp only[World.size_alloc]at this;exact this
 go_upto_region 12 with(at_builtin;refine ay rfl (.tmp 50) (.tmp 55) 92 rfl 95 (.agg #[.int .u64 0, .int .u64 0]) 2 16 rfl ae underlying92 eT ae (some ⟨w2.heap.size,0,none⟩) 1 1 [.int .u64 2056, .int .u64 (lines:Int)] ⟨w2.heap.size+1,0,none⟩ 1 1 [.int .u64 2064, .int .u64 1] rfl rfl (HSW.out.keep (λb hb=>d_ _ _ b (HSW.out.lt hb))) rfl ae HCT.out (tO _ _) ae ?_;intro A4 c4 w4 lU eW mU uM)
 have CV:Hid (TFm w2 lines NN 2 A4 c4 w4):=by
  refine⟨by rw[Og.out];exact lU.out,bM (by exact aC:Below w2.heap.size w2 _) eW.out (λb hb=>by simp[ah]at hb;omega),λb hb=> ?_⟩;rcases mU.out b hb with h|h
  . simp[ah]at h;omega
  . rw[h];simp;omega
 have g4:=mV.out.below CV.out.2.1;clear c0 c1 gl HSW HCT lU eW mU uM Og e2 e3;have c1:w4.cell? ⟨g,1,none⟩=some (.int .u64 8):=g4.cell 1;have gl:=g4.lt;clear g4;go_wp2;clear c1 gl;go_loopw [59,10,11,60,61,62,63,64,65,66,67,68,69] (λb ws _ _ _ _ _ _ _ _ _ _ _ wr=>∃(j m:Nat) (A:Option Addr) (c:Nat),j<=8/\Hid (m=2+j)/\b= .int .u64 j/\ws= .slice A m c/\TFm w2 lines NN m A c wr) (λb _ _ _ _ _ _ _ _ _ _ _ _ _=>8-(intOf b).toNat)
 case atStart=>exact⟨0,2,A4,c4,by omega,rfl,rfl,rfl,CV.out⟩
 case round=>
  clear CV;obtain⟨j,m,A,c,hj,HM,rfl,rfl,hS,hB,hO⟩:=hrel;have HS:=ag hS;have HB:=ag hB;have HO:=ag hO;have ie:=mV.out.below hB;by_cases aM:j<8
  . have dx:(j:Int)<8:=by omega
    have uN:Hid (az (rC lines NN (m+1))=az (rC lines NN m)++[.int .u64 (8*((eJ 256 j:Nat):Int)), .int .u64 0]):=by
     show _=_
     rw[HM.out,OM _ _ _ aM];simp[az]
    have BC:=ag (λW:World=>C4 W NN j ae);generalize (8:Int)*((eJ 256 j:Nat):Int)=z at uN BC;unfold uo at BC;have c0:wr.cell? ⟨g,0,none⟩=some (.int .u64 2048):=ie.cell 0;have c1:wr.cell? ⟨g,1,none⟩=some (.int .u64 8):=ie.cell 1;have c2:wr.cell? ⟨g,2,none⟩=some (.int .u64 (NN:Int)):=ie.cell 2;have gl:=ie.lt;have hmb:m<1000:=by have:=HM.out;omega
    have e4:IntKind.u64.wrap ((j:Int)+1)=(j:Int)+1:=bY _ ae;clear hS hB hO ie
    go_wp2_with (first
     |(go_at_call 60;(with_reducible refine(BC.out _).mono ?_);rintro e w5 ⟨rfl,hb⟩;obtain⟨x,rfl⟩:=aE hb;clear hb)
     |(at_builtin;refine ay rfl (.tmp 62) (.tmp 67) 92 rfl 95 (.agg #[.int .u64 0, .int .u64 0]) 2 16 rfl ae underlying92 eT ae A m c (az (rC lines NN m)) ⟨x.w.heap.size,0,none⟩ 1 1 [.int .u64 z, .int .u64 0] rfl rfl (HS.out.keep (λb hb=>(by exact aC:Below wr.heap.size wr _).block b (HS.out.lt hb))) rfl ae (dT x.w 95 _) (ir.1 rfl) ae ?_;intro A5 c5 w5 CU rz HW5 HG5))
    go_roundw
    case rel=>
     have hbx:Below wr.heap.size wr (x.w.alloc (.cells #[.int .u64 z, .int .u64 0] 95)):=by exact aC
     have SB:=x.size;have CE:=HB.out.size;refine⟨j+1,m+1,A5,c5,by omega,by show _=_;have:=HM.out;omega,by go_num,rfl,by rw[uN.out];exact CU.out,bM (HB.out.trans (hbx.mono HB.out.size)) rz.out (λb hb=>HO.out b hb),λb hb=> ?_⟩;rcases HW5.out b hb with h|h
     . exact HO.out b h
     . rw[h];simp;omega
    case measure=>simp[intOf];omega
  . obtain rfl:j=8:=by omega
    obtain⟨wb,hwb⟩:∃wb,wb=wr:=⟨_,rfl⟩;have ZcZ:m=10:=by have:=HM.out;omega
    subst ZcZ;clear hS hB hO ie HM;rw[<-hwb]at HS HB |-;clear hwb;go_wp2;clear aM;go_loopw [12,10,13,70,71,72,73,74,75,76,77,78,79,80,81,82,83,84,85,86,87,88,89,90,91,92,93,94,95,96,97,98,99,100,101] (λb ws _ _ _ _ _ _ _ _ _ _ _ _ _ _ _ _ _ _ _ _ _ _ _ _ _ _ _ _ _ _ _ _ _ wr=>∃(k m:Nat) (A:Option Addr) (c:Nat),1<=k/\k<=NN+1/\Hid (m+4=10+4*k)/\b= .int .u64 k/\ws= .slice A m c/\TFm w2 lines NN m A c wr) (λb _ _ _ _ _ _ _ _ _ _ _ _ _ _ _ _ _ _ _ _ _ _ _ _ _ _ _ _ _ _ _ _ _ _ _=>NN+1-(intOf b).toNat)
    case atStart=>exact⟨1,10,A,c,by omega,by omega,rfl,rfl,rfl,HS.out,HB.out,HO.out⟩
    case round=>
     clear HS HB HO;obtain⟨k,m,A,c,iy,hkN,HM,rfl,rfl,hS,hB,hO⟩:=hrel;have HS:=ag hS;have HB:=ag hB;have HO:=ag hO;have ie:=mV.out.below hB;have c0:wr.cell? ⟨g,0,none⟩=some (.int .u64 2048):=ie.cell 0;have c1:wr.cell? ⟨g,1,none⟩=some (.int .u64 8):=ie.cell 1;have c2:wr.cell? ⟨g,2,none⟩=some (.int .u64 (NN:Int)):=ie.cell 2;have gl:=ie.lt;have V1:=ag ie;clear hS hB hO ie;by_cases aM:k<=NN
     . have dx:(k:Int)<=(NN:Int):=by omega
       obtain⟨nx,fx⟩:∃nx:Int,(if k=NN then 0 else((k+1:Nat):Int))=nx:=⟨_,rfl⟩
       have uN:Hid (az (rC lines NN (m+4))=az (rC lines NN m)++[.int .u64 (8*((aQ 256 8 k 0:Nat):Int)), .int .u64 0, .int .u64 (8*((aQ 256 8 k 1:Nat):Int)), .int .u64 0, .int .u64 (8*((aQ 256 8 k 2:Nat):Int)), .int .u64 nx, .int .u64 (8*((aQ 256 8 k 3:Nat):Int)), .int .u64 0]):=by
        show _=_
        have hm:=HM.out;obtain⟨k0,rfl⟩:∃k0,k=k0+1:=⟨k-1,by omega⟩;have oM:m=10+4*k0:=by omega
        rw[oM,OO,<-fx];simp[az];split<;>omega
       have Ev:=ag (λW:World=>dI W k 0 NN iy ae ae);have J3:=ag (λW:World=>dI W k 1 NN iy ae ae);have Aw:=ag (λW:World=>dI W k 2 NN iy ae ae);have J2:=ag (λW:World=>dI W k 3 NN iy ae ae);generalize (8:Int)*((aQ 256 8 k 0:Nat):Int)=z0 at uN Ev;generalize (8:Int)*((aQ 256 8 k 1:Nat):Int)=z1 at uN J3;generalize (8:Int)*((aQ 256 8 k 2:Nat):Int)=z2 at uN Aw;generalize (8:Int)*((aQ 256 8 k 3:Nat):Int)=z3 at uN J2;rw[show(((0:Nat):Int))=0 from rfl]at Ev;rw[show(((1:Nat):Int))=1 from rfl]at J3;rw[show(((2:Nat):Int))=2 from rfl]at Aw;rw[show(((3:Nat):Int))=3 from rfl]at J2;unfold uo at Ev J3 Aw J2;have hmb:m<1000:=by have:=HM.out;omega
       have e4:IntKind.u64.wrap ((k:Int)+1)=(k:Int)+1:=bY _ ae;go_upto_region 21 with(fail)
       go_upto_if 81 with(fail)
       go_cut [13]from 80 to 81 (λs wx=>s= .int .u64 nx/\wr=wx)
       case first=>
        by_cases zF:k=NN
        . have Y8:nx=0:=by rw[<-fx,aA zF]
          have hkI:(k:Int)=(NN:Int):=by omega
          clear fx;subst Y8;go_wp2;go_meet;exact⟨rfl,rfl⟩
        . have Y8:nx=(k:Int)+1:=by rw[<-fx,ax zF];omega
          have hkI:¬(k:Int)=(NN:Int):=by omega
          clear fx;subst Y8;go_wp2;go_meet;exact⟨rfl,rfl⟩
       case rest=>
       obtain⟨rfl,rfl⟩:=hcut;obtain⟨wd,rfl⟩:∃wd,wd=wr:=⟨_,rfl⟩;clear fx;go_upto_region 23 with(fail)
       go_region_held3 (λw'=>w'.cell? ⟨g,0,none⟩=some (.int .u64 2048)/\w'.cell? ⟨g,1,none⟩=some (.int .u64 8)/\w'.cell? ⟨g,2,none⟩=some (.int .u64 (NN:Int))/\g<w'.heap.size)
        ((refine⟨?_,?_,?_,?_⟩<;>first|assumption|(go_simp;done)|(simp;omega)))
        (first
          |(go_at_call 61;(with_reducible refine(Ev.out _).mono ?_);rintro e w5 ⟨rfl,hb⟩;obtain⟨x0,rfl⟩:=aE hb;clear hb)
          |(go_at_call 61;(with_reducible refine(J3.out _).mono ?_);rintro e w5 ⟨rfl,hb⟩;obtain⟨x1,rfl⟩:=aE hb;clear hb)
          |(go_at_call 61;(with_reducible refine(Aw.out _).mono ?_);rintro e w5 ⟨rfl,hb⟩;obtain⟨x2,rfl⟩:=aE hb;clear hb)
          |(go_at_call 61;(with_reducible refine(J2.out _).mono ?_);rintro e w5 ⟨rfl,hb⟩;obtain⟨x3,rfl⟩:=aE hb;clear hb)
          |(refine dJ rfl (.tmp 82) (.tmp 100) 92 rfl 95 (.agg #[.int .u64 0, .int .u64 0]) 2 16 rfl ae underlying92 eT ae A m c (az (rC lines NN m)) ⟨x3.w.heap.size,0,none⟩ 4 4 [.int .u64 z0, .int .u64 0, .int .u64 z1, .int .u64 0, .int .u64 z2, .int .u64 nx, .int .u64 z3, .int .u64 0] (by go_simp) (by go_simp) (HS.out.keep (λb hb=>(by exact aC:Below wd.heap.size wd _).block b (HS.out.lt hb))) rfl ae (dT x3.w 95 _) (ir.1 rfl) ae ?_;intro A5 c5 w5 CU rz HW5 HG5;have Sj:Hid (Below wd.heap.size wd (x3.w.alloc (.cells #[.int .u64 z0, .int .u64 0, .int .u64 z1, .int .u64 0, .int .u64 z2, .int .u64 nx, .int .u64 z3, .int .u64 0] 95))):=(by show Below _ _ _;exact aC);have HXS:Hid (wd.heap.size<=x3.w.heap.size):=(by show _<=_;exact(by exact aC:Below wd.heap.size wd x3.w).size);have HN5:Hid (∀b,ah A b->b≠g):=(λb hb h=>by have h1:=HO.out b hb;have h2:=mV.out.lt;omega);have HGX:=ag ((V1.out.below Sj.out).keep (rz.out.block g (V1.out.below Sj.out).lt (λh=>HN5.out g h rfl)));have k0:w5.cell? ⟨g,0,none⟩=some (.int .u64 2048):=HGX.out.cell 0;have k1:w5.cell? ⟨g,1,none⟩=some (.int .u64 8):=HGX.out.cell 1;have k2:w5.cell? ⟨g,2,none⟩=some (.int .u64 (NN:Int)):=HGX.out.cell 2;have k3:g<w5.heap.size:=HGX.out.lt))
       go_wp2;refine⟨⟨_,_,_,_,_,_,_,_,_,_,_,_,_,_,_,_,_,_,_,_,_,_,_,_,_,_,_,_,_,_,_,_,_,_,_,?_,rfl⟩,?_⟩
       . have CE:=HB.out.size
         have SB:=HXS.out;refine⟨k+1,m+4,A5,c5,by omega,by omega,by show _=_;have:=HM.out;omega,by go_num,rfl,by rw[uN.out];exact CU.out,bM (HB.out.trans (Sj.out.mono HB.out.size)) rz.out (λb hb=>HO.out b hb),λb hb=> ?_⟩;rcases HW5.out b hb with h|h
         . exact HO.out b h
         . rw[h];simp;omega
       . simp[intOf];omega
     . obtain rfl:k=NN+1:=by omega
       have SK:m=10+4*NN:=by have:=HM.out;omega
       subst SK;obtain⟨j,hj⟩:=aH (10+4*NN);rw[hj]at HS iU |-;have HLQ:Hid ((rC lines NN j).length=j):=IY _ _ _;have MT:j<256:=by omega
       have hj1:1<=j:=by omega
       have HJ:=ag hj;have ZdN:Hid (∀W:World,Calls prog 56 #[.slice (some ⟨W.heap.size,0,none⟩) 1 1] (W.alloc (.cells #[.int .u64 2048, .int .u64 327831077452] 95)) (jO (W.alloc (.cells #[.int .u64 2048, .int .u64 327831077452] 95)) (bD [(2048,327831077452)]))):=λW=>stQ _ _ 1 1 [(2048,327831077452)] rfl ae ae (pB _ 2048 327831077452) smQ (by simp[starts])
       have ZdO:Hid (Calls prog 56 #[.slice A j c] wr (jO wr (bD (rC lines NN j)))):=stQ _ _ j c (rC lines NN j) HLQ.out hj1 MT HS.out (λp hp=>by obtain⟨q,hq,MM,_⟩:=xB hp;rw[MM];have:=yt (j:=q);omega) (Ip lines NN j)
       have ZdS:Hid (∀(W:World) (A3:Option Addr) (c3:Nat),Sl 164 3 W A3 (bD (rC lines NN j)).length c3 (bw (bD (rC lines NN j)))->Below w2.heap.size w2 W->(∀b,ah A3 b->w2.heap.size<=b)->Calls prog 57 #[.slice A3 (bD (rC lines NN j)).length c3, .iface 87 (.pointer (some ⟨t i,0,none⟩))] W (SrP F1 d t n (aO (aO xs [(2048,0)]) (rC lines NN j)) (N+300) w2)):=λW A3 c3 h1 h2 h3=>
        rnQ LH.out dh.out (bZ _ _) h1 h2 h3 i HI.out (λp hp=>by obtain⟨q,hq,MM,_⟩:=xB hp;exact⟨u6 q,MM,by have:=R8.out;have:=yt (j:=q);have:=HJ.out;omega⟩) (by have:=R8.out;omega) (by have:=HLQ.out;omega) (by have:=HN.out;omega)
       have ZdR:Hid (∀(w4:World) (S4:aq),DV F1 d t w4 S4->Clean S4 n (aO (aO xs [(2048,0)]) (rC lines NN j)) (N+300)->∀(w1 W:World) (A3:Option Addr) (c3:Nat),Below w4.heap.size w4 w1->Sl 164 3 W A3 (bD [(2048,327831077452)]).length c3 (bw (bD [(2048,327831077452)]))->Below w1.heap.size w1 W->(∀b,ah A3 b->w1.heap.size<=b)->Calls prog 57 #[.slice A3 (bD [(2048,327831077452)]).length c3, .iface 87 (.pointer (some ⟨t i,0,none⟩))] W (SrP F1 d t n (yu xs lines NN) (N+400) w4)):=λw4 S4 h4 hc4 w1 W A3 c3 h0 h1 h2 h3=>by
        rw[<-iU.out];exact rnQ h4 hc4 h0 h1 h2 h3 i HI.out (λp hp=>⟨256,by simp at hp;rw[hp];rfl,by have:=R8.out;omega⟩) (by have:=R8.out;omega) smQ (by have:=HN.out;omega)
       have hG4:∀W,Ch F1 w2 W->CB W g 113 #[.int .u64 2048, .int .u64 8, .int .u64 (NN:Int)]:=λW hW=>mV.out.keep (hW.block g mV.out.lt (λh=>HF1.out.1 h))
       have uM:=ag hG4;have U5:¬((NN+1:Nat):Int)<=(NN:Int):=by omega
       clear hG4 hj c1 c0
       go_wp2_with (first
        |(go_at_call 56;first
         |((with_reducible refine(ZdO.out).mono ?_);rintro e w3 ⟨A3,c3,rfl,hS3,hB3,hO3⟩;have HS3:=ag hS3;have Hu:Hid (Below w2.heap.size w2 w3):=HB.out.trans (hB3.mono HB.out.size);have GK:Hid (∀b,ah A3 b->w2.heap.size<=b):=(λb hb=>by have h1:=hO3 b hb;have h2:=HB.out.size;omega);clear hS3 hB3 hO3)
         |((with_reducible refine(ZdN.out _).mono ?_);rintro e w5 ⟨A5,c5,rfl,Gc,Lj,zM⟩;have LF:=ag Gc;have lJ:=ag Lj;have CU:=ag zM;clear Gc Lj zM))
        |(go_at_call 57;first
         |((with_reducible refine(ZdS.out _ _ _ HS3.out Hu.out GK.out).mono ?_);rintro e w4 ⟨rfl,⟨S4,hD4,Gg⟩,Vc⟩;have HD4:=ag hD4;have eW:=ag Gg;have Zd1:=ag Vc;have c0:=(uM.out _ Vc).cell 0;have gl:=(uM.out _ Vc).lt;clear hD4 Gg Vc)
         |((with_reducible refine(ZdR.out _ _ HD4.out eW.out _ _ _ _ (ai (bZ _ _) _) LF.out lJ.out CU.out).mono ?_);rintro e w6 ⟨rfl,⟨S6,hD6,hC6⟩,ZbV⟩;have HD6:=ag hD6;have Hs:=ag hC6;have Zd0:=ag ZbV;clear hD6 hC6 ZbV)))
       have Vf:Ch F1 W1 w6:=(Zce.out.trans Zd1.out (λb hb _=>hb)).trans Zd0.out (λb hb _=>hb);exact bH (v:= .int .i64 0) (by simp[results,results38,go_sem]) rfl ⟨rfl,⟨S6,HD6.out.mono HF1.out.2,Hs.out⟩,(Ch.au (S:=F) HGB.out).trans (Vf.mono (λb hb _=>HF1.out.2 b hb)) (λb hb _=>hb)⟩
end
section
variable{role:Nat->Nat}{K:Nat->Prop}{p d bb c a line lines:Nat}{t:Nat->Nat}{size:Int}{w w2:World}{σ:PwS}{o oc:aX}{cnt n N:Nat}{M:Nat->Prop}{xs:List Int}
theorem bB.TZ(h:PM role p d bb t line lines size w σ)(hK:∀b,K b->role b=0/\b<w.heap.size)(ha:σ.ops a=some o)(hB:Below w.heap.size w w2)(q:Nat)(v:Int)(ld:Nat)
 {ea:Option Addr} {ec:Nat} {oa:Option Addr} {oc sb sc:Nat} {pa:Option Addr} {pc:Nat} (gi:CB w a 187 (ei p t o ea ec oa oc sb sc pa pc)) (ZcM:∀ea' ec' oa' oc' sb' sc' pa' pc',CB w a 187 (ei p t o ea' ec' oa' oc' sb' sc' pa' pc')->sb'=sb):
 bB K p d t line lines size ((w2.setCell ⟨sb,q,none⟩ (.int .u64 v)).setCell ⟨a,6,none⟩ (.int .i64 ld)) (σ.aB a {o with seen:=o.seen.set q v,loaded:=ld})/\Ch (λb=>¬K b) w ((w2.setCell ⟨sb,q,none⟩ (.int .u64 v)).setCell ⟨a,6,none⟩ (.int .i64 ld)):=by
 have hO:=h.op a o ha;have hr:=hO.ra;obtain⟨ea,ec,oa,oc,Sx,sc,pa,pc,h1,h2,h3,h4,zN,h5,r1,r2,n1,r3,r4,r5⟩:=hO;obtain rfl:=ZcM _ _ _ _ _ _ _ _ h1;have hC:Ch (λb=>b=a\/b=Sx) w ((w2.setCell ⟨Sx,q,none⟩ (.int .u64 v)).setCell ⟨a,6,none⟩ (.int .i64 ld)):=((Ch.au (S:=λb=>b=a\/b=Sx) hB).setCell (a:=⟨Sx,q,none⟩) (.inl (.inr rfl)) _).setCell (a:=⟨a,6,none⟩) (.inl (.inl rfl)) _
 have Zdp:CB ((w2.setCell ⟨Sx,q,none⟩ (.int .u64 v)).setCell ⟨a,6,none⟩ (.int .i64 ld)) a 187 (ei p t {o with seen:=o.seen.set q v,loaded:=ld} ea ec oa oc Sx sc pa pc):=by
  have:=((h1.below hB).far (p:=⟨Sx,q,none⟩) n1.symm (.int .u64 v)).set 6 (.int .i64 ld);have hl:(o.seen.set q v).length=o.seen.length:=by simp
  unfold ei at this |-;dsimp only;rw[hl];exact this
 have hib:IB .u64 22 ((w2.setCell ⟨Sx,q,none⟩ (.int .u64 v)).setCell ⟨a,6,none⟩ (.int .i64 ld)) Sx (o.seen.set q v):=((h4.below hB h4.lt).set q v).far (p:=⟨a,6,none⟩) n1 _;exact bB.ua h hK (hC.mono (λb hb _=>hb.elim (λhb=>by rw[hb];exact r1) (λhb=>by rw[hb];exact r2))) ⟨ea,ec,oa,oc,Sx,sc,pa,pc,Zdp,h2.ch hC (λb hb hx=>hx.elim (r3 b hb).2.1 (r3 b hb).2.2),h3.ch hC (λb hb hx=>hx.elim (r4 b hb).2.1 (r4 b hb).2.2),hib,by show(o.seen.set q v).length<=sc;rw[lO];exact zN,h5.ch hC (λb hb hx=>hx.elim (r5 b hb).2.1 (r5 b hb).2.2),by rw[bR h1.lt];exact r1,by rw[bR h4.lt];exact r2,n1,λb hb=>by rw[bR (h2.lt hb)];exact r3 b hb,λb hb=>by rw[bR (h3.lt hb)];exact r4 b hb,λb hb=>by rw[bR (h5.lt hb)];exact r5 b hb⟩
theorem IJ{o:aX}{ea ea' oa oa' pa pa':Option Addr}{ec ec' k k' sb sb' sc sc' pc pc':Nat}(h:CB w a 187 (ei p t o ea ec oa k sb sc pa pc))(h':CB w a 187 (ei p t o ea' ec' oa' k' sb' sc' pa' pc')):sb'=sb:=by
 have h1:=h.h_.c5;have h2:=h'.h_.c5;rw[h1]at h2;injection h2 with h2;injection h2 with h2;injection h2 with h2;injection h2 with h2;exact h2.symm
theorem eU.seen(h:eU cnt n M o){q:Nat}(hq:q<o.es.length){v:Int}(hv:0<=v/\v<4611686018427387904)(ld:Nat):eU cnt n M {o with seen:=o.seen.set q v,loaded:=ld}:=by
 refine⟨h.th,h.k,h.l1,h.l6,h.vS,h.nd,h.perm,by show(o.seen.set _ _).length=_;rw[lO];exact h.sl,λp=> ?_⟩;show 0<=kW (o.seen.set _ _) p/\kW (o.seen.set _ _) p<_
 rw[Lk (by rw[h.sl];exact hq)];split
 . exact hv
 . exact h.sr p
theorem CJ(ks:List Nat)(j:Nat)(hj:j<ks.length)(h:j<(ic ks).length):(ic ks)[j]= .int .i64 ((ks[j]'hj:Nat):Int):=by simp[ic]
theorem Yh(H:bB K p d t line lines size w σ)(tC:K 0)(hT:Tab w)(bT:σ.ops c=some oc)(bF:eU cnt n M oc)(dP:On σ.dev n xs N)(hn:n<100000)(hl:line+4*oc.k<100000)(Bp:3*oc.es.length<=18)
 (Zk:oc.loaded<oc.order.length) {v:Int} (hv:xs[ee oc.es (oc.order.getD oc.loaded 0)]?=some v) (hvr:0<=v/\v<4611686018427387904) (i:Nat) (hi:i<8):
 Calls prog 137 #[.pointer (some ⟨c,0,none⟩), .pointer (some ⟨t i,0,none⟩)] w λr w'=>r= .returned (.tuple #[])/\bB K p d t line lines size w' (σ.load aR (cP line) c oc i)/\Ch (λb=>¬K b) w w':=by
 have HPX:=ag H;obtain⟨role,bb,h,hK⟩:=H;have hO:=h.op c oc bT;obtain⟨ea,ec,oa,ock,sb,sc,pa,pc,h1,h2,h3,h4,zN,h5,r1,r2,n1,r3,r4,r5⟩:=hO;obtain⟨q,hq⟩:=aH (oc.order.getD oc.loaded 0);have gg:q<oc.es.length:=by rw[<-hq];exact bF.qQ Zk
 have hqe:oc.order[oc.loaded]'Zk=q:=by rw[<-hq,eY,dG Zk];rfl
 rw[hq]at hv;obtain⟨w1,w2,w3⟩:=bF.wd gg;have Oo:=ag (Ds (sum:=aR) (at0:=cP line) (c:=c) (i:=i) dP hq w3 w2 hv);have Zca:=ag (bF.seen gg hvr (oc.loaded+1));have hol:=bF.vv;obtain⟨m,hm⟩:=aH oc.es.length;have UO:=bF.l6;have SH:q<oc.seen.length:=by rw[bF.sl];exact gg
 have oK:=bF.sl;obtain⟨go,Zcs,hoA,UW,co⟩:=h3.at_ (j:=oc.loaded) (by simpa [ic]using Zk);rw[CJ _ _ Zk,hqe]at co;obtain⟨g,off,fL,eh,t1,t2,t3,t4⟩:=h2.vS gg;have c3:=h1.h_.c3;have c4:=h1.h_.c4;have c5:=h1.h_.c5;have c6:=h1.h_.c6;have f6:=h1.frozen 6;have fs:=h4.frozen q;obtain⟨sv,cs⟩:∃sv,w.cell? ⟨sb,q,none⟩=some (.int .u64 sv):=⟨_,h4.cell SH⟩;have hcs:c≠sb:=n1.symm;have hsc:=n1;have xa:c<w.heap.size:=h1.lt;have HLs:sb<w.heap.size:=h4.lt;have MW:¬g=sb:=(r3 g (by rw[fL];simp[ah])).2.2;have hgc:¬g=c:=(r3 g (by rw[fL];simp[ah])).2.1;subst fL hoA
 have tL:Hid (∀W,Below w.heap.size w W->Calls prog 68 #[.pointer (some ⟨t i,0,none⟩), .int .u64 (oc.es.getD q E0).off] W λe w'=>e= .returned (.int .u64 v)/\W=w'):=λW hW=>by
  rw[w3];exact OD (h.dv.below hW) i hi dP.off _ _ (by rw[dP.cur];exact hv)
 have jx:Hid (∀W,Below w.heap.size w W->Calls prog 65 #[.pointer (some ⟨t i,0,none⟩)] W λe w'=>e= .returned (.int .i64 0)/\W=w'):=λW hW=>by
  have:=LQ (h.dv.below hW) i hi;rwa[dP.err i]at this
 have HSA:=ag (λ(W:World)=>DY W (oc.es[q]'gg) v ae);have MZ:oc.es.getD q E0=oc.es[q]'gg:=by rw[eY,dG gg];rfl
 rw[MZ]at tL Oo;have R6:=ag (λ(W:World) (hB:Below w.heap.size w W)=>bB.TZ (σ:=σ) h hK bT hB q v (oc.loaded+1) h1 (λ_ _ _ _ _ _ _ _ hx=>IJ h1 hx));have x_:=ag (λ(W:World) (HW:bB K p d t line lines size W (σ.aB c {oc with seen:=oc.seen.set q v,loaded:=oc.loaded+1})) (U_:Tab W)=>ub HW tC U_ (o:={oc with seen:=oc.seen.set q v,loaded:=oc.loaded+1}) (aA rfl) Zca.out hn hl Bp 1 ae);have HTC:Hid (∀W,Ch (λb=>¬K b) w W->Tab W):=λW hW=>hT.ch hW (λh0=>h0 tC)
 obtain⟨e,he⟩:=aH (oc.es[q]'gg);rw[he]at t1 t2 t3 t4 tL HSA Oo;obtain⟨Z2,nK,rK,Nn⟩:=e;dsimp only at t1 t2 t3 t4 tL;unfold DX at HSA;dsimp only at HSA;obtain⟨ld,Zbx⟩:=aH oc.loaded;obtain⟨sat,rF⟩:=aH ((⟨Z2,nK,rK,Nn⟩:bO).sat v);rw[rF]at HSA Oo;rw[hm]at c3 gg;rw[hol,hm]at c4 Zk;rw[oK,hm]at c5;rw[Zbx]at c6 co Zk R6 x_ Oo;have hmI:m<=6:=by omega
 rw[hol,hm]at Oo;have e1:=ED v hvr;have e2:=Ke v ae;have e3:IntKind.i64.wrap ((ld:Int)+1)=((ld+1:Nat):Int):=by rw[b9 _ ae];omega
 have Xc:((ld+1:Nat):Int)=(ld:Int)+1:=by omega
 rw[Xc]at R6 e3;clear Xc;have HFI:=ag (λ(W:World) (HW:bB K p d t line lines size W σ)=>Fu HW bT false);have HCB:=ag h1;have HOL:Hid (oc.order.length=m):=by show _=_;rw[hol,hm]
 have Zfb:Hid ((oc.seen.set q v).length=m):=by show _=_;rw[lO,oK,hm]
 clear h hK h1 h2 h3 h4 zN h5 r1 r2 n1 r3 r4 r5 bF dP hv hqe hq w1 w2 w3 hol hm UO SH oK MZ he Zbx rF hvr hl Bp hT Zca;go_enter func137,ntmps137
 go_wp2;go_quiet (fail)
 cases sat with
 |false=>
  go_wp2_with (first|(go_at_call 68;refine(tL.out _ aC).mono ?_;rintro e w' ⟨rfl,rfl⟩)|(go_at_call 65;refine(jx.out _ aC).mono ?_;rintro e w' ⟨rfl,rfl⟩)|(go_at_call 170;refine(HSA.out _).mono ?_;rintro e w' ⟨rfl,hb⟩;obtain⟨x,rfl⟩:=aE hb;clear hb)|(go_at_call 171;(refine(HFI.out _ (HPX.out.ko aC)).mono ?_;rintro e w5 ⟨rfl,hX,hC⟩;have BB:=ag hX;have rz:=ag hC;clear hX hC)))
  have hq:=Oo.out;simp only[eS,dF]at hq;refine bH (v:= .tuple #[]) (by simp[results,results137,go_sem]) rfl ?_;rw[hq];exact⟨rfl,BB.out,(Ch.au (S:=λb=>¬K b) aC).trans rz.out (λ_ hb _=>hb)⟩
 |true=>
  go_wp2_with (first|(go_at_call 68;refine(tL.out _ aC).mono ?_;rintro e w' ⟨rfl,rfl⟩)|(go_at_call 65;refine(jx.out _ aC).mono ?_;rintro e w' ⟨rfl,rfl⟩)|(go_at_call 170;refine(HSA.out _).mono ?_;rintro e w' ⟨rfl,hb⟩;obtain⟨x,rfl⟩:=aE hb;clear hb))
  obtain⟨w7,hw7⟩:=aH ((x.w.setCell ⟨sb,q,none⟩ (.int .u64 v)).setCell ⟨c,6,none⟩ (.int .i64 ((ld:Int)+1)));have tj:=R6.out x.w aC;rw[hw7]at tj;have R5:=ag tj
  have gq:Ch (λb=>b=c\/b=sb) w w7:=by
   rw[<-hw7];exact((Ch.au (S:=λb=>b=c\/b=sb) aC).setCell (a:=⟨sb,q,none⟩) (.inl (.inr rfl)) _).setCell (a:=⟨c,6,none⟩) (.inl (.inl rfl)) _
  have g6:w7.cell? ⟨c,6,none⟩=some (.int .i64 ((ld:Int)+1)):=by rw[<-hw7];exact((HCB.out.below aC).far (p:=⟨sb,q,none⟩) hcs _|>.set 6 _).cell 6
  have g4:w7.cell? ⟨c,4,none⟩=some (.slice (some ⟨go,Zcs,none⟩) m ock):=by rw[<-hw7,<-HOL.out];exact((HCB.out.below aC).far (p:=⟨sb,q,none⟩) hcs _|>.set 6 _).cell 4
  rw[hw7];clear hw7 tj gq;by_cases iQ:ld+1=m
  . have eD:((ld:Int)+1==(m:Int))=true:=by rw[yQ];omega
    go_quiet (fail)
    go_wp2_with (go_at_call 139;refine(x_.out _ (R5.out.1.ko aC) (HTC.out _ (R5.out.2.trans (Ch.au (S:=λb=>¬K b) aC) (λ_ hb _=>hb)))).mono ?_;rintro e w5 ⟨rfl,hX,hC⟩;have BB:=ag hX;have rz:=ag hC;clear hX hC)
    go_end0
    have hq:=Oo.out;simp only[cR,aA iQ]at hq;rw[hq];exact⟨rfl,BB.out,(R5.out.2.trans (Ch.au (S:=λb=>¬K b) aC) (λ_ hb _=>hb)).trans rz.out (λ_ hb _=>hb)⟩
  . have eD:((ld:Int)+1==(m:Int))=false:=by rw[vp];omega
    go_quiet (fail)
    go_wp2;go_end0
    have hq:=Oo.out;simp only[cR,ax iQ]at hq;rw[hq];exact⟨rfl,R5.out.1.ko aC,R5.out.2.trans (Ch.au (S:=λb=>¬K b) aC) (λ_ hb _=>hb)⟩
end
theorem Fz(W:World)(a:Nat):(binOp .neq 105 (.pointer (some ⟨a,0,none⟩)) (.pointer (some ⟨a,0,none⟩))).run prog W= .ok (.bool false) W:=by
 obtain⟨j,hj,_⟩:=ri
 have h:∀d:Nat,(Op.equalIn (d+1) 105 (.pointer (some ⟨a,0,none⟩)) (.pointer (some ⟨a,0,none⟩))).run prog W= .ok true W:=λd=>by
  simp[Op.equalIn,Cc (show prog.underlying 105=some (.pointer 187)from underlying105),sizeOf,typeInfo,hj,run_sameAddr_same]
 simp only[binOp];simp[Op.equal,Op.maxDepth,h 9999]
theorem IM(W:World)(a:Nat):(binOp .neq 105 (.pointer none) (.pointer (some ⟨a,0,none⟩))).run prog W= .ok (.bool true) W:=by
 obtain⟨j,hj,_⟩:=ri
 have h:∀d:Nat,(Op.equalIn (d+1) 105 (.pointer none) (.pointer (some ⟨a,0,none⟩))).run prog W= .ok false W:=λd=>by
  simp[Op.equalIn,Cc (show prog.underlying 105=some (.pointer 187)from underlying105),sizeOf,typeInfo,hj]
 simp only[binOp];simp[Op.equal,Op.maxDepth,h 9999]
theorem Dq{W:World}{a c:Nat}{ca cc:Array Value}(aG:c≠a)(hc:CB W c 187 cc)(ha:CB W a 187 ca):(binOp .neq 105 (.pointer (some ⟨c,0,none⟩)) (.pointer (some ⟨a,0,none⟩))).run prog W= .ok (.bool true) W:=by
 obtain⟨j,hj,hs⟩:=ri;have ZcS:(⟨c,0,none⟩:Addr)≠⟨a,0,none⟩:=λhe=>aG (by injection he)
 have h:∀d:Nat,(Op.equalIn (d+1) 105 (.pointer (some ⟨c,0,none⟩)) (.pointer (some ⟨a,0,none⟩))).run prog W= .ok false W:=λd=>by
  simp[Op.equalIn,Cc (show prog.underlying 105=some (.pointer 187)from underlying105),sizeOf,typeInfo,hj,hs,run_sameAddr_other W ZcS hc ha]
 simp only[binOp];simp[Op.equal,Op.maxDepth,h 9999]
section
variable{role:Nat->Nat}{K:Nat->Prop}{p d bb c a line lines:Nat}{t:Nat->Nat}{size:Int}{w w2:World}{σ:PwS}{o oc:aX}{cnt n N:Nat}{M:Nat->Prop}{xs:List Int}
theorem bB.IG(H:bB K p d t line lines size w σ)(ha:σ.ops a=some o)(c s j:Nat):
 bB K p d t line lines size (((w.setCell ⟨a,13,none⟩ (.pointer (some ⟨c,0,none⟩))).setCell ⟨a,14,none⟩ (.int .i64 s)).setCell ⟨a,15,none⟩ (.int .i64 j)) (σ.aB a (o.pos c s j))/\Ch (λb=>¬K b) w (((w.setCell ⟨a,13,none⟩ (.pointer (some ⟨c,0,none⟩))).setCell ⟨a,14,none⟩ (.int .i64 s)).setCell ⟨a,15,none⟩ (.int .i64 j)):=by
 obtain⟨role,bb,h,hK⟩:=H;have hO:=h.op a o ha;have hC:Ch (At a) w (((w.setCell ⟨a,13,none⟩ (.pointer (some ⟨c,0,none⟩))).setCell ⟨a,14,none⟩ (.int .i64 s)).setCell ⟨a,15,none⟩ (.int .i64 j)):=(((Ch.refl _ _).bj _ _).bj _ _).bj _ _;exact bB.ua h hK (hC.mono (λb hb _=>by rw[show b=a from hb];exact hO.ra)) (hO.uf (o':=o.pos c s j) hC (λ_ _ _ _ _ _ _ _ gi=>((gi.set _ _).set _ _).set _ _) rfl rfl rfl rfl)
theorem bB.xE(H:bB K p d t line lines size w σ)(ha:σ.ops a=some o)(j:Nat):
 bB K p d t line lines size (w.setCell ⟨a,15,none⟩ (.int .i64 j)) (σ.aB a {o with next:=j})/\Ch (λb=>¬K b) w (w.setCell ⟨a,15,none⟩ (.int .i64 j)):=by
 obtain⟨role,bb,h,hK⟩:=H;have hO:=h.op a o ha;have hC:Ch (At a) w (w.setCell ⟨a,15,none⟩ (.int .i64 j)):=(Ch.refl _ _).bj _ _;exact bB.ua h hK (hC.mono (λb hb _=>by rw[show b=a from hb];exact hO.ra)) (hO.uf (o':={o with next:=j}) hC (λ_ _ _ _ _ _ _ _ gi=>gi.set _ _) rfl rfl rfl rfl)
theorem bB.err(H:bB K p d t line lines size w σ)(i:Nat)(hi:i<8):Calls prog 65 #[.pointer (some ⟨t i,0,none⟩)] w λe w'=>e= .returned (.int .i64 (σ.dev.a8 i).err)/\w=w':=by
 obtain⟨role,bb,h,hK⟩:=H;exact LQ h.dv i hi
theorem bB.h_(H:bB K p d t line lines size w σ)(ha:σ.ops a=some o):a<w.heap.size/\p≠a/\(∀i,w.frozen? ⟨a,i,none⟩=false)/\∃ea ec oa ock sb sc pa pc,OpC w p t a o ea ec oa ock sb sc pa pc/\Sl 164 3 w pa o.prog.length pc (bw o.prog):=by
 obtain⟨role,bb,h,hK⟩:=H;obtain⟨ea,ec,oa,ock,sb,sc,pa,pc,h1,h2,h3,h4,zN,h5,r1,_⟩:=h.op a o ha;exact⟨h1.lt,λhe=>by have:=h.rp;rw[he,r1]at this;omega,λi=>h1.frozen i,ea,ec,oa,ock,sb,sc,pa,pc,h1.h_,h5⟩
theorem bB.cbx(H:bB K p d t line lines size w σ)(ha:σ.ops a=some o):∃cs,CB w a 187 cs:=by
 obtain⟨role,bb,h,hK⟩:=H;obtain⟨_,_,_,_,_,_,_,_,h1⟩:=(h.op a o ha).cb;exact⟨_,h1⟩
theorem getD_eq{α:Type}(l:List α)(d:α){j:Nat}(h:j<l.length):l.getD j d=l[j]:=by rw[eY,dG h];rfl
theorem Cu(H:bB K p d t line lines size w σ)(tC:K 0)(hT:Tab w)(ha:σ.ops a=some o)(bT:σ.ops c=some oc)(bF:eU cnt n M oc)(tz:eU cnt n M o)(dP:On σ.dev n xs N)(hN:N<1000000)(hn:n<100000)(hl:line+4*oc.k<100000)(Bp:3*oc.es.length<=18)
 (htg:∀b,o.tgt=some b->∃ob,σ.ops b=some ob)
 (h0:oc.aa=0->oc.loaded<oc.order.length/\∃v,xs[ee oc.es (oc.order.getD oc.loaded 0)]?=some v/\0<=v/\v<4611686018427387904)
 (h1:oc.aa≠0->oc.aa<=4/\o.mS c oc.aa<oc.prog.length/\oc.prog.length<=37/\Hy n (oc.prog.getD (o.mS c oc.aa) (0,0,0))):
 Calls prog 103 #[.pointer (some ⟨a,0,none⟩), .pointer (some ⟨c,0,none⟩)] w λr w'=>r= .returned (.tuple #[])/\bB K p d t line lines size w' (σ.ry aR (cP line) a o c oc)/\Ch (λb=>¬K b) w w':=by
 have HP:=ag H;obtain⟨xa,tu,fa,_,_,_,_,_,_,_,_,CA,_⟩:=H.h_ ha;obtain⟨Ol,K8,fc,_,_,_,_,_,_,_,_,CC,_⟩:=H.h_ bT;have c1:=CA.c1;have c7:=CC.c7;by_cases hs:oc.aa=0
 . obtain⟨g1,v,g2,g3⟩:=h0 hs
   have HLO:=ag (Yh H tC hT bT bF dP hn hl Bp g1 g2 g3 o.th tz.th);have HQ:Hid (σ.ry aR (cP line) a o c oc=σ.load aR (cP line) c oc o.th):=by show _=_;unfold PwS.ry;rw[aA hs]
   rw[hs]at c7;clear h0 h1 bF tz dP hT H CA CC g1 g2 g3 hl Bp htg;go_enter func103,ntmps103
   go_wp2_with (go_at_call 137;refine HLO.out.mono ?_;rintro e w5 ⟨rfl,hX,hC⟩;have BB:=ag hX;have rz:=ag hC;clear hX hC)
   refine bH (v:= .tuple #[]) (by simp[results,results103,go_sem]) rfl ?_;rw[HQ.out];exact⟨rfl,BB.out,rz.out⟩
 . obtain⟨h4,hj,Jj,hv⟩:=h1 hs
   have QE:((oc.aa:Int)==0)=false:=by rw[vp];omega
   obtain⟨j,UT⟩:=aH (o.mS c oc.aa);have mK:=tz.th;have QJ:=dP.ins o.th mK hN hv;have HQ:=ag (JQ (sum:=aR) (at0:=cP line) σ a o c oc hs (QJ.err _));rw[UT]at hj hv QJ HQ;obtain⟨q,hq⟩:=aH (oc.prog.getD j (0,0,0));rw[hq]at hv QJ HQ;have UG:=hv.num ae;have GM:=ag (λ(W:World) (F:Nat->Prop) (hD:DV F d t W σ.dev)=>Mr W hD o.th mK dP.good hN q UG.1 UG.2);have Ho:=ag bF;have HT:=ag hT;have VY:=ag QJ;have Ta:Hid (oc.prog[j]'hj=q):=by show _=_;rw[<-hq,getD_eq _ _ hj]
   have GJ:=ag bT;have HA:=ag ha;obtain⟨s,AE⟩:=aH oc.aa;have pk:=ag AE;have HJE:=ag UT;have HLI:=ag hl;have VS:Hid (1<=s/\s<=4):=by show _/\_;omega
   have NP:=ag Bp;rw[AE]at c7 QE h4 HQ;have lZ:=λ(W:World)=>Fz W c
   have hpn:=λ(W:World)=>IM W c
   have fW:=CA.fW;have fO:=CA.fO;have dC:=CA.dC;have f13:=fa 13;have f14:=fa 14;have f15:=fa 15;clear h0 h1 bF tz dP hT CA CC hl Bp hq hv QJ UG fa fc AE;cases vH:o.tgt with
   |none=>
    have HJ0:Hid (j=0):=by show _=_;rw[<-HJE.out];unfold aX.mS;rw[ax (by rw[vH];simp)]
    rw[vH]at fW;clear vH htg;go_enter func103,ntmps103
    go_wp2;go_quiet (fail)
    go_upto_region 4 with(fail)
    obtain⟨W1,fV⟩:=aH (((((w.drewN nq).setCell ⟨a,13,none⟩ (.pointer (some ⟨c,0,none⟩))).setCell ⟨a,14,none⟩ (.int .i64 s)).setCell ⟨a,15,none⟩ (.int .i64 0)));have GI:=bB.IG (HP.out.ko (below_drewN (bZ _ _) nq)) HA.out c s 0;have Ea:Hid (bB K p d t line lines size W1 (σ.aB a (o.pos c s j))):=by rw[<-fV,HJ0.out];exact GI.1
    have tN:Hid (Ch (λb=>¬K b) w W1):=by rw[<-fV];exact(Ch.au (S:=λb=>¬K b) (below_drewN (bZ _ _) nq)).trans GI.2 (λ_ hb _=>hb)
    rw[fV];clear fV GI;clear lZ hpn;have S1:Hid (Tab W1):=HT.out.ch tN.out (λh0=>h0 tC);clear c1 c7 fW fO dC f13 f14 f15 xa Ol tu K8
    obtain⟨ug,tA,oq,zB⟩:∃ug,(σ.aB a (o.pos c s j)).ops c=some ug/\ug.prog=oc.prog/\ug.aa=oc.aa:=by
     by_cases fA:c=a
     . have:oc=o:=by have h1:=GJ.out;have h2:=HA.out;rw[fA,h2]at h1;injection h1 with h1;exact h1.symm
       exact⟨o.pos c s j,aA fA,by rw[this];rfl,by rw[this];rfl⟩
     . exact⟨oc,(ax fA).trans GJ.out,rfl,rfl⟩
    obtain⟨xa,tu,fa,_,_,_,_,_,_,_,_,CA,_⟩:=Ea.out.h_ (a:=a) (o:=o.pos c s j) (aA rfl);obtain⟨Ol,K8,fc,_,_,_,_,_,_,pa,pc,CC,SP⟩:=Ea.out.h_ tA;rw[oq]at SP;have c1:W1.cell? ⟨a,1,none⟩=some (.pointer (some ⟨t o.th,0,none⟩)):=CA.c1;have dC:W1.cell? ⟨a,15,none⟩=some (.int .i64 j):=CA.dC;have c8:W1.cell? ⟨c,8,none⟩=some (.slice pa oc.prog.length pc):=by have:=CC.c8;rwa[oq]at this
    obtain⟨g,off,fL,eh,t1,t2,t3⟩:=SP.ins hj;rw[Ta.out]at t1 t2 t3;subst fL;have x9:=ag (λ(W:World) (HW:bB K p d t line lines size W (σ.aB a (o.pos c s j)))=>Fs HW (λF hD=>GM.out W F hD));obtain⟨m,hm⟩:=aH oc.prog.length;have HM:=ag hm;rw[hm]at c8 hj Jj HQ;have hjI:(j:Int)<(m:Int):=by omega
    have e1:IntKind.i64.wrap ((j:Int)+1)=(j:Int)+1:=b9 _ ae;have e2:IntKind.i64.wrap ((s:Int)+1)=(s:Int)+1:=b9 _ ae;have jx:=ag (VY.out.err o.th);have Zat:=ag tA;have Zar:Hid (ug.aa=s):=by show _=_;rw[zB,pk.out]
    have Zas:Hid (ug.prog.length=m):=by show _=_;rw[oq,hm]
    obtain⟨D',M_⟩:=aH (σ.dev.cW o.th q);rw[M_]at HQ x9 jx;obtain⟨q1,q2,q3⟩:=q;dsimp only at t1 t2 t3 x9;clear CA CC SP fa fc oq hm tA zB M_;refine aL 14 krQ krQ ?_;simp only[List.take_succ_cons,List.take_zero,jm,iq];repeat(go_big_quiet_step (fail))
    refine cE ?_;rintro _ ⟨y,rfl⟩;have J5:=ag (x9.out y.w (Ea.out.ko y.below));clear x9 GM c1 dC c8 t1 t2 t3 eh xa Ol tu K8;go_wp2_with (first|(go_at_call 138;refine J5.out.mono ?_;rintro e w2 ⟨rfl,hX,hC⟩;have rR:=ag hX;have dh:Hid (Ch (λb=>¬K b) w w2):=(tN.out.trans (Ch.au (S:=λb=>¬K b) y.below) (λ_ hb _=>hb)).trans hC (λ_ hb _=>hb);clear hX hC;obtain⟨xa,tu,fa,_,_,_,_,_,_,_,_,CA,_⟩:=rR.out.h_ (a:=a) (o:=o.pos c s j) (aA rfl);have c1:w2.cell? ⟨a,1,none⟩=some (.pointer (some ⟨t o.th,0,none⟩)):=CA.c1;have dC:w2.cell? ⟨a,15,none⟩=some (.int .i64 j):=CA.dC;have f15:=fa 15;clear CA fa)|(go_at_call 65;refine(rR.out.err o.th mK).mono ?_;rintro e w' ⟨rfl,rfl⟩;rw[jx.out]))
    obtain⟨w3,Eg⟩:=aH (w2.setCell ⟨a,15,none⟩ (.int .i64 ((j:Int)+1)));have jP:=bB.xE rR.out (a:=a) (o:=o.pos c s j) (aA rfl) (j+1);rw[show((j+1:Nat):Int)=(j:Int)+1 by omega,Eg]at jP
    have DD:({σ.aB a (o.pos c s j)with dev:=D'}:PwS).aB a {o.pos c s j with next:=j+1}=({σ with dev:=D'}:PwS).aB a (o.pos c s (j+1)):=by
     refine PwS.ext' rfl rfl rfl (λb=> ?_);show(if b=a then _ else if b=a then _ else σ.ops b)=if b=a then _ else σ.ops b
     split<;>rfl
    have D_:Hid (bB K p d t line lines size w3 (({σ with dev:=D'}:PwS).aB a (o.pos c s (j+1)))):=by rw[<-DD];exact jP.1
    have fo:Hid (Ch (λb=>¬K b) w w3):=dh.out.trans jP.2 (λ_ hb _=>hb)
    have ov:(({σ with dev:=D'}:PwS).aB a (o.pos c s (j+1))).ops c=some (if c=a then o.pos c s (j+1)else oc):=by
     show(if c=a then some (o.pos c s (j+1))else σ.ops c)=_
     split
     . rfl
     . exact GJ.out
    have zC:(if c=a then o.pos c s (j+1)else oc).prog=oc.prog/\(if c=a then o.pos c s (j+1)else oc).aa=s/\(if c=a then o.pos c s (j+1)else oc).es=oc.es/\(if c=a then o.pos c s (j+1)else oc).k=oc.k/\eU cnt n M (if c=a then o.pos c s (j+1)else oc):=by
     by_cases fA:c=a
     . have ho:oc=o:=by have h1:=GJ.out;have h2:=HA.out;rw[fA,h2]at h1;injection h1 with h1;exact h1.symm
       have hk:=Ho.out;have bh:=pk.out;rw[aA fA];rw[ho]at hk bh |-;exact⟨rfl,bh,rfl,rfl,hk.th,hk.k,hk.l1,hk.l6,hk.vS,hk.nd,hk.perm,hk.sl,hk.sr⟩
     . rw[ax fA]
       exact⟨rfl,pk.out,rfl,rfl,Ho.out⟩
    obtain⟨IK,pq⟩:=aH ((if c=a then o.pos c s (j+1)else oc));rw[pq]at ov zC HQ;obtain⟨x1,x2,x3,x4,x5⟩:=zC;obtain⟨Zaw,YX,_,_,_,_,_,_,_,_,_,Su,_⟩:=D_.out.h_ (a:=a) (o:=o.pos c s (j+1)) (aA rfl);obtain⟨Zav,YW,_,_,_,_,_,_,_,Yf,Ye,Ka,_⟩:=D_.out.h_ ov;have d15:w3.cell? ⟨a,15,none⟩=some (.int .i64 ((j:Int)+1)):=by have h9:w3.cell? ⟨a,15,none⟩=some (.int .i64 ((j+1:Nat):Int)):=Su.dC;exact h9
    have d8:w3.cell? ⟨c,8,none⟩=some (.slice Yf m Ye):=by have:=Ka.c8;rwa[x1,HM.out]at this
    have d7:w3.cell? ⟨c,7,none⟩=some (.int .i64 s):=by have:=Ka.c7;rwa[x2]at this
    have x_:Hid (∀W,bB K p d t line lines size W (({σ with dev:=D'}:PwS).aB a (o.pos c s (j+1)))->Tab W->Calls prog 139 #[.pointer (some ⟨c,0,none⟩), .int .i64 ((s+1:Nat):Int)] W λr w'=>r= .returned (.tuple #[])/\bB K p d t line lines size w' ((({σ with dev:=D'}:PwS).aB a (o.pos c s (j+1))).enter aR (cP line) c IK (s+1))/\Ch (λb=>¬K b) W w'):=λW HW U_=>
     ub HW tC U_ ov x5 hn (by rw[x4];exact HLI.out) (by rw[x3];exact NP.out) (s+1) (by have:=VS.out;omega)
    rw[show((s+1:Nat):Int)=(s:Int)+1 by omega]at x_;rw[Eg];clear Eg jP DD ov x1 x2 x3 x4 x5 Su Ka pq c1 dC f15 xa tu;by_cases iQ:j+1=m
    . have eD:((j:Int)+1==(m:Int))=true:=by rw[yQ];omega
      go_quiet (fail)
      go_wp2_with (go_at_call 139;refine(x_.out _ (D_.out.ko aC) (HT.out.ch (fo.out.trans (Ch.au (S:=λb=>¬K b) aC) (λ_ hb _=>hb)) (λh0=>h0 tC))).mono ?_;rintro e w5 ⟨rfl,hX,hC⟩;have BB:=ag hX;have rz:=ag hC;clear hX hC)
      go_end0
      have hq:=HQ.out;rw[aA iQ]at hq;rw[hq];exact⟨rfl,BB.out,(fo.out.trans (Ch.au (S:=λb=>¬K b) aC) (λ_ hb _=>hb)).trans rz.out (λ_ hb _=>hb)⟩
    . have eD:((j:Int)+1==(m:Int))=false:=by rw[vp];omega
      go_quiet (fail)
      go_wp2;go_end0
      have hq:=HQ.out;rw[ax iQ]at hq;rw[hq];exact⟨rfl,D_.out.ko aC,fo.out.trans (Ch.au (S:=λb=>¬K b) aC) (λ_ hb _=>hb)⟩
   |some b=>
    by_cases l9:b=c
    . have gi:c=b:=l9.symm
      subst gi;by_cases nQ:o.sf=s
      . have El:o.next=j:=by rw[<-HJE.out];unfold aX.mS;rw[aA ⟨vH,by rw[nQ,pk.out]⟩]
        have Oi:Hid (o.pos c s j=o):=by
         show _=_
         have h1:=aX.pos_at o c s;rw[aA ⟨vH,nQ⟩]at h1;have h2:=HJE.out;rw[pk.out]at h2;rw[<-h2,<-h1]
        have LC:Hid (σ.aB a (o.pos c s j)=σ):=by
         show _=_
         rw[Oi.out];refine PwS.ext' rfl rfl rfl (λx=> ?_);show(if x=a then some o else σ.ops x)=σ.ops x
         split
         . rename_i hx;rw[hx,HA.out]
         . rfl
        have aG:((s:Int) !=(s:Int))=false:=by simp
        rw[vH]at fW;rw[nQ]at fO;rw[El]at dC;clear vH htg nQ El;go_enter func103,ntmps103
        go_wp2;go_quiet (fail)
        go_upto_region 4 with(fail)
        obtain⟨W1,fV⟩:=aH (w.drewN nq);have Ea:Hid (bB K p d t line lines size W1 (σ.aB a (o.pos c s j))):=by rw[<-fV,LC.out];exact HP.out.ko (below_drewN (bZ _ _) nq)
        have tN:Hid (Ch (λb=>¬K b) w W1):=by rw[<-fV];exact Ch.au (below_drewN (bZ _ _) nq)
        rw[fV];clear fV Oi LC aG lZ hpn;have S1:Hid (Tab W1):=HT.out.ch tN.out (λh0=>h0 tC);clear c1 c7 fW fO dC f13 f14 f15 xa Ol tu K8
        obtain⟨ug,tA,oq,zB⟩:∃ug,(σ.aB a (o.pos c s j)).ops c=some ug/\ug.prog=oc.prog/\ug.aa=oc.aa:=by
         by_cases fA:c=a
         . have:oc=o:=by have h1:=GJ.out;have h2:=HA.out;rw[fA,h2]at h1;injection h1 with h1;exact h1.symm
           exact⟨o.pos c s j,aA fA,by rw[this];rfl,by rw[this];rfl⟩
         . exact⟨oc,(ax fA).trans GJ.out,rfl,rfl⟩
        obtain⟨xa,tu,fa,_,_,_,_,_,_,_,_,CA,_⟩:=Ea.out.h_ (a:=a) (o:=o.pos c s j) (aA rfl);obtain⟨Ol,K8,fc,_,_,_,_,_,_,pa,pc,CC,SP⟩:=Ea.out.h_ tA;rw[oq]at SP;have c1:W1.cell? ⟨a,1,none⟩=some (.pointer (some ⟨t o.th,0,none⟩)):=CA.c1;have dC:W1.cell? ⟨a,15,none⟩=some (.int .i64 j):=CA.dC;have c8:W1.cell? ⟨c,8,none⟩=some (.slice pa oc.prog.length pc):=by have:=CC.c8;rwa[oq]at this
        obtain⟨g,off,fL,eh,t1,t2,t3⟩:=SP.ins hj;rw[Ta.out]at t1 t2 t3;subst fL;have x9:=ag (λ(W:World) (HW:bB K p d t line lines size W (σ.aB a (o.pos c s j)))=>Fs HW (λF hD=>GM.out W F hD));obtain⟨m,hm⟩:=aH oc.prog.length;have HM:=ag hm;rw[hm]at c8 hj Jj HQ;have hjI:(j:Int)<(m:Int):=by omega
        have e1:IntKind.i64.wrap ((j:Int)+1)=(j:Int)+1:=b9 _ ae;have e2:IntKind.i64.wrap ((s:Int)+1)=(s:Int)+1:=b9 _ ae;have jx:=ag (VY.out.err o.th);have Zat:=ag tA;have Zar:Hid (ug.aa=s):=by show _=_;rw[zB,pk.out]
        have Zas:Hid (ug.prog.length=m):=by show _=_;rw[oq,hm]
        obtain⟨D',M_⟩:=aH (σ.dev.cW o.th q);rw[M_]at HQ x9 jx;obtain⟨q1,q2,q3⟩:=q;dsimp only at t1 t2 t3 x9;clear CA CC SP fa fc oq hm tA zB M_;refine aL 14 krQ krQ ?_;simp only[List.take_succ_cons,List.take_zero,jm,iq];repeat(go_big_quiet_step (fail))
        refine cE ?_;rintro _ ⟨y,rfl⟩;have J5:=ag (x9.out y.w (Ea.out.ko y.below));clear x9 GM c1 dC c8 t1 t2 t3 eh xa Ol tu K8;go_wp2_with (first|(go_at_call 138;refine J5.out.mono ?_;rintro e w2 ⟨rfl,hX,hC⟩;have rR:=ag hX;have dh:Hid (Ch (λb=>¬K b) w w2):=(tN.out.trans (Ch.au (S:=λb=>¬K b) y.below) (λ_ hb _=>hb)).trans hC (λ_ hb _=>hb);clear hX hC;obtain⟨xa,tu,fa,_,_,_,_,_,_,_,_,CA,_⟩:=rR.out.h_ (a:=a) (o:=o.pos c s j) (aA rfl);have c1:w2.cell? ⟨a,1,none⟩=some (.pointer (some ⟨t o.th,0,none⟩)):=CA.c1;have dC:w2.cell? ⟨a,15,none⟩=some (.int .i64 j):=CA.dC;have f15:=fa 15;clear CA fa)|(go_at_call 65;refine(rR.out.err o.th mK).mono ?_;rintro e w' ⟨rfl,rfl⟩;rw[jx.out]))
        obtain⟨w3,Eg⟩:=aH (w2.setCell ⟨a,15,none⟩ (.int .i64 ((j:Int)+1)));have jP:=bB.xE rR.out (a:=a) (o:=o.pos c s j) (aA rfl) (j+1);rw[show((j+1:Nat):Int)=(j:Int)+1 by omega,Eg]at jP
        have DD:({σ.aB a (o.pos c s j)with dev:=D'}:PwS).aB a {o.pos c s j with next:=j+1}=({σ with dev:=D'}:PwS).aB a (o.pos c s (j+1)):=by
         refine PwS.ext' rfl rfl rfl (λb=> ?_);show(if b=a then _ else if b=a then _ else σ.ops b)=if b=a then _ else σ.ops b
         split<;>rfl
        have D_:Hid (bB K p d t line lines size w3 (({σ with dev:=D'}:PwS).aB a (o.pos c s (j+1)))):=by rw[<-DD];exact jP.1
        have fo:Hid (Ch (λb=>¬K b) w w3):=dh.out.trans jP.2 (λ_ hb _=>hb)
        have ov:(({σ with dev:=D'}:PwS).aB a (o.pos c s (j+1))).ops c=some (if c=a then o.pos c s (j+1)else oc):=by
         show(if c=a then some (o.pos c s (j+1))else σ.ops c)=_
         split
         . rfl
         . exact GJ.out
        have zC:(if c=a then o.pos c s (j+1)else oc).prog=oc.prog/\(if c=a then o.pos c s (j+1)else oc).aa=s/\(if c=a then o.pos c s (j+1)else oc).es=oc.es/\(if c=a then o.pos c s (j+1)else oc).k=oc.k/\eU cnt n M (if c=a then o.pos c s (j+1)else oc):=by
         by_cases fA:c=a
         . have ho:oc=o:=by have h1:=GJ.out;have h2:=HA.out;rw[fA,h2]at h1;injection h1 with h1;exact h1.symm
           have hk:=Ho.out;have bh:=pk.out;rw[aA fA];rw[ho]at hk bh |-;exact⟨rfl,bh,rfl,rfl,hk.th,hk.k,hk.l1,hk.l6,hk.vS,hk.nd,hk.perm,hk.sl,hk.sr⟩
         . rw[ax fA]
           exact⟨rfl,pk.out,rfl,rfl,Ho.out⟩
        obtain⟨IK,pq⟩:=aH ((if c=a then o.pos c s (j+1)else oc));rw[pq]at ov zC HQ;obtain⟨x1,x2,x3,x4,x5⟩:=zC;obtain⟨Zaw,YX,_,_,_,_,_,_,_,_,_,Su,_⟩:=D_.out.h_ (a:=a) (o:=o.pos c s (j+1)) (aA rfl);obtain⟨Zav,YW,_,_,_,_,_,_,_,Yf,Ye,Ka,_⟩:=D_.out.h_ ov;have d15:w3.cell? ⟨a,15,none⟩=some (.int .i64 ((j:Int)+1)):=by have h9:w3.cell? ⟨a,15,none⟩=some (.int .i64 ((j+1:Nat):Int)):=Su.dC;exact h9
        have d8:w3.cell? ⟨c,8,none⟩=some (.slice Yf m Ye):=by have:=Ka.c8;rwa[x1,HM.out]at this
        have d7:w3.cell? ⟨c,7,none⟩=some (.int .i64 s):=by have:=Ka.c7;rwa[x2]at this
        have x_:Hid (∀W,bB K p d t line lines size W (({σ with dev:=D'}:PwS).aB a (o.pos c s (j+1)))->Tab W->Calls prog 139 #[.pointer (some ⟨c,0,none⟩), .int .i64 ((s+1:Nat):Int)] W λr w'=>r= .returned (.tuple #[])/\bB K p d t line lines size w' ((({σ with dev:=D'}:PwS).aB a (o.pos c s (j+1))).enter aR (cP line) c IK (s+1))/\Ch (λb=>¬K b) W w'):=λW HW U_=>
         ub HW tC U_ ov x5 hn (by rw[x4];exact HLI.out) (by rw[x3];exact NP.out) (s+1) (by have:=VS.out;omega)
        rw[show((s+1:Nat):Int)=(s:Int)+1 by omega]at x_;rw[Eg];clear Eg jP DD ov x1 x2 x3 x4 x5 Su Ka pq c1 dC f15 xa tu;by_cases iQ:j+1=m
        . have eD:((j:Int)+1==(m:Int))=true:=by rw[yQ];omega
          go_quiet (fail)
          go_wp2_with (go_at_call 139;refine(x_.out _ (D_.out.ko aC) (HT.out.ch (fo.out.trans (Ch.au (S:=λb=>¬K b) aC) (λ_ hb _=>hb)) (λh0=>h0 tC))).mono ?_;rintro e w5 ⟨rfl,hX,hC⟩;have BB:=ag hX;have rz:=ag hC;clear hX hC)
          go_end0
          have hq:=HQ.out;rw[aA iQ]at hq;rw[hq];exact⟨rfl,BB.out,(fo.out.trans (Ch.au (S:=λb=>¬K b) aC) (λ_ hb _=>hb)).trans rz.out (λ_ hb _=>hb)⟩
        . have eD:((j:Int)+1==(m:Int))=false:=by rw[vp];omega
          go_quiet (fail)
          go_wp2;go_end0
          have hq:=HQ.out;rw[ax iQ]at hq;rw[hq];exact⟨rfl,D_.out.ko aC,fo.out.trans (Ch.au (S:=λb=>¬K b) aC) (λ_ hb _=>hb)⟩
      . have HJ0:Hid (j=0):=by show _=_;rw[<-HJE.out];unfold aX.mS;rw[ax (by rw[pk.out];exact λhh=>nQ hh.2)]
        have aG:((o.sf:Int) !=(s:Int))=true:=by rw[bne_iff_ne];omega
        rw[vH]at fW;clear vH htg;go_enter func103,ntmps103
        go_wp2;go_quiet (fail)
        go_upto_region 4 with(fail)
        obtain⟨W1,fV⟩:=aH (((((w.drewN nq).setCell ⟨a,13,none⟩ (.pointer (some ⟨c,0,none⟩))).setCell ⟨a,14,none⟩ (.int .i64 s)).setCell ⟨a,15,none⟩ (.int .i64 0)));have GI:=bB.IG (HP.out.ko (below_drewN (bZ _ _) nq)) HA.out c s 0;have Ea:Hid (bB K p d t line lines size W1 (σ.aB a (o.pos c s j))):=by rw[<-fV,HJ0.out];exact GI.1
        have tN:Hid (Ch (λb=>¬K b) w W1):=by rw[<-fV];exact(Ch.au (S:=λb=>¬K b) (below_drewN (bZ _ _) nq)).trans GI.2 (λ_ hb _=>hb)
        rw[fV];clear fV GI;clear aG lZ hpn;have S1:Hid (Tab W1):=HT.out.ch tN.out (λh0=>h0 tC);clear c1 c7 fW fO dC f13 f14 f15 xa Ol tu K8
        obtain⟨ug,tA,oq,zB⟩:∃ug,(σ.aB a (o.pos c s j)).ops c=some ug/\ug.prog=oc.prog/\ug.aa=oc.aa:=by
         by_cases fA:c=a
         . have:oc=o:=by have h1:=GJ.out;have h2:=HA.out;rw[fA,h2]at h1;injection h1 with h1;exact h1.symm
           exact⟨o.pos c s j,aA fA,by rw[this];rfl,by rw[this];rfl⟩
         . exact⟨oc,(ax fA).trans GJ.out,rfl,rfl⟩
        obtain⟨xa,tu,fa,_,_,_,_,_,_,_,_,CA,_⟩:=Ea.out.h_ (a:=a) (o:=o.pos c s j) (aA rfl);obtain⟨Ol,K8,fc,_,_,_,_,_,_,pa,pc,CC,SP⟩:=Ea.out.h_ tA;rw[oq]at SP;have c1:W1.cell? ⟨a,1,none⟩=some (.pointer (some ⟨t o.th,0,none⟩)):=CA.c1;have dC:W1.cell? ⟨a,15,none⟩=some (.int .i64 j):=CA.dC;have c8:W1.cell? ⟨c,8,none⟩=some (.slice pa oc.prog.length pc):=by have:=CC.c8;rwa[oq]at this
        obtain⟨g,off,fL,eh,t1,t2,t3⟩:=SP.ins hj;rw[Ta.out]at t1 t2 t3;subst fL;have x9:=ag (λ(W:World) (HW:bB K p d t line lines size W (σ.aB a (o.pos c s j)))=>Fs HW (λF hD=>GM.out W F hD));obtain⟨m,hm⟩:=aH oc.prog.length;have HM:=ag hm;rw[hm]at c8 hj Jj HQ;have hjI:(j:Int)<(m:Int):=by omega
        have e1:IntKind.i64.wrap ((j:Int)+1)=(j:Int)+1:=b9 _ ae;have e2:IntKind.i64.wrap ((s:Int)+1)=(s:Int)+1:=b9 _ ae;have jx:=ag (VY.out.err o.th);have Zat:=ag tA;have Zar:Hid (ug.aa=s):=by show _=_;rw[zB,pk.out]
        have Zas:Hid (ug.prog.length=m):=by show _=_;rw[oq,hm]
        obtain⟨D',M_⟩:=aH (σ.dev.cW o.th q);rw[M_]at HQ x9 jx;obtain⟨q1,q2,q3⟩:=q;dsimp only at t1 t2 t3 x9;clear CA CC SP fa fc oq hm tA zB M_;refine aL 14 krQ krQ ?_;simp only[List.take_succ_cons,List.take_zero,jm,iq];repeat(go_big_quiet_step (fail))
        refine cE ?_;rintro _ ⟨y,rfl⟩;have J5:=ag (x9.out y.w (Ea.out.ko y.below));clear x9 GM c1 dC c8 t1 t2 t3 eh xa Ol tu K8;go_wp2_with (first|(go_at_call 138;refine J5.out.mono ?_;rintro e w2 ⟨rfl,hX,hC⟩;have rR:=ag hX;have dh:Hid (Ch (λb=>¬K b) w w2):=(tN.out.trans (Ch.au (S:=λb=>¬K b) y.below) (λ_ hb _=>hb)).trans hC (λ_ hb _=>hb);clear hX hC;obtain⟨xa,tu,fa,_,_,_,_,_,_,_,_,CA,_⟩:=rR.out.h_ (a:=a) (o:=o.pos c s j) (aA rfl);have c1:w2.cell? ⟨a,1,none⟩=some (.pointer (some ⟨t o.th,0,none⟩)):=CA.c1;have dC:w2.cell? ⟨a,15,none⟩=some (.int .i64 j):=CA.dC;have f15:=fa 15;clear CA fa)|(go_at_call 65;refine(rR.out.err o.th mK).mono ?_;rintro e w' ⟨rfl,rfl⟩;rw[jx.out]))
        obtain⟨w3,Eg⟩:=aH (w2.setCell ⟨a,15,none⟩ (.int .i64 ((j:Int)+1)));have jP:=bB.xE rR.out (a:=a) (o:=o.pos c s j) (aA rfl) (j+1);rw[show((j+1:Nat):Int)=(j:Int)+1 by omega,Eg]at jP
        have DD:({σ.aB a (o.pos c s j)with dev:=D'}:PwS).aB a {o.pos c s j with next:=j+1}=({σ with dev:=D'}:PwS).aB a (o.pos c s (j+1)):=by
         refine PwS.ext' rfl rfl rfl (λb=> ?_);show(if b=a then _ else if b=a then _ else σ.ops b)=if b=a then _ else σ.ops b
         split<;>rfl
        have D_:Hid (bB K p d t line lines size w3 (({σ with dev:=D'}:PwS).aB a (o.pos c s (j+1)))):=by rw[<-DD];exact jP.1
        have fo:Hid (Ch (λb=>¬K b) w w3):=dh.out.trans jP.2 (λ_ hb _=>hb)
        have ov:(({σ with dev:=D'}:PwS).aB a (o.pos c s (j+1))).ops c=some (if c=a then o.pos c s (j+1)else oc):=by
         show(if c=a then some (o.pos c s (j+1))else σ.ops c)=_
         split
         . rfl
         . exact GJ.out
        have zC:(if c=a then o.pos c s (j+1)else oc).prog=oc.prog/\(if c=a then o.pos c s (j+1)else oc).aa=s/\(if c=a then o.pos c s (j+1)else oc).es=oc.es/\(if c=a then o.pos c s (j+1)else oc).k=oc.k/\eU cnt n M (if c=a then o.pos c s (j+1)else oc):=by
         by_cases fA:c=a
         . have ho:oc=o:=by have h1:=GJ.out;have h2:=HA.out;rw[fA,h2]at h1;injection h1 with h1;exact h1.symm
           have hk:=Ho.out;have bh:=pk.out;rw[aA fA];rw[ho]at hk bh |-;exact⟨rfl,bh,rfl,rfl,hk.th,hk.k,hk.l1,hk.l6,hk.vS,hk.nd,hk.perm,hk.sl,hk.sr⟩
         . rw[ax fA]
           exact⟨rfl,pk.out,rfl,rfl,Ho.out⟩
        obtain⟨IK,pq⟩:=aH ((if c=a then o.pos c s (j+1)else oc));rw[pq]at ov zC HQ;obtain⟨x1,x2,x3,x4,x5⟩:=zC;obtain⟨Zaw,YX,_,_,_,_,_,_,_,_,_,Su,_⟩:=D_.out.h_ (a:=a) (o:=o.pos c s (j+1)) (aA rfl);obtain⟨Zav,YW,_,_,_,_,_,_,_,Yf,Ye,Ka,_⟩:=D_.out.h_ ov;have d15:w3.cell? ⟨a,15,none⟩=some (.int .i64 ((j:Int)+1)):=by have h9:w3.cell? ⟨a,15,none⟩=some (.int .i64 ((j+1:Nat):Int)):=Su.dC;exact h9
        have d8:w3.cell? ⟨c,8,none⟩=some (.slice Yf m Ye):=by have:=Ka.c8;rwa[x1,HM.out]at this
        have d7:w3.cell? ⟨c,7,none⟩=some (.int .i64 s):=by have:=Ka.c7;rwa[x2]at this
        have x_:Hid (∀W,bB K p d t line lines size W (({σ with dev:=D'}:PwS).aB a (o.pos c s (j+1)))->Tab W->Calls prog 139 #[.pointer (some ⟨c,0,none⟩), .int .i64 ((s+1:Nat):Int)] W λr w'=>r= .returned (.tuple #[])/\bB K p d t line lines size w' ((({σ with dev:=D'}:PwS).aB a (o.pos c s (j+1))).enter aR (cP line) c IK (s+1))/\Ch (λb=>¬K b) W w'):=λW HW U_=>
         ub HW tC U_ ov x5 hn (by rw[x4];exact HLI.out) (by rw[x3];exact NP.out) (s+1) (by have:=VS.out;omega)
        rw[show((s+1:Nat):Int)=(s:Int)+1 by omega]at x_;rw[Eg];clear Eg jP DD ov x1 x2 x3 x4 x5 Su Ka pq c1 dC f15 xa tu;by_cases iQ:j+1=m
        . have eD:((j:Int)+1==(m:Int))=true:=by rw[yQ];omega
          go_quiet (fail)
          go_wp2_with (go_at_call 139;refine(x_.out _ (D_.out.ko aC) (HT.out.ch (fo.out.trans (Ch.au (S:=λb=>¬K b) aC) (λ_ hb _=>hb)) (λh0=>h0 tC))).mono ?_;rintro e w5 ⟨rfl,hX,hC⟩;have BB:=ag hX;have rz:=ag hC;clear hX hC)
          go_end0
          have hq:=HQ.out;rw[aA iQ]at hq;rw[hq];exact⟨rfl,BB.out,(fo.out.trans (Ch.au (S:=λb=>¬K b) aC) (λ_ hb _=>hb)).trans rz.out (λ_ hb _=>hb)⟩
        . have eD:((j:Int)+1==(m:Int))=false:=by rw[vp];omega
          go_quiet (fail)
          go_wp2;go_end0
          have hq:=HQ.out;rw[ax iQ]at hq;rw[hq];exact⟨rfl,D_.out.ko aC,fo.out.trans (Ch.au (S:=λb=>¬K b) aC) (λ_ hb _=>hb)⟩
    . obtain⟨ob,xM⟩:=htg b vH
      obtain⟨cs,hcs⟩:=HP.out.cbx xM;obtain⟨cc,gh⟩:=HP.out.cbx GJ.out;have YU:=λ(m:Nat)=>Dq l9 (hcs.drewN m) (gh.drewN m)
      have HJ0:Hid (j=0):=by show _=_;rw[<-HJE.out];unfold aX.mS;rw[ax (by rw[vH];simp[l9])]
      rw[vH]at fW;clear vH htg lZ hpn hcs gh xM;go_enter func103,ntmps103
      go_wp2;go_quiet (fail)
      go_upto_region 4 with(fail)
      obtain⟨W1,fV⟩:=aH (((((w.drewN nq).setCell ⟨a,13,none⟩ (.pointer (some ⟨c,0,none⟩))).setCell ⟨a,14,none⟩ (.int .i64 s)).setCell ⟨a,15,none⟩ (.int .i64 0)));have GI:=bB.IG (HP.out.ko (below_drewN (bZ _ _) nq)) HA.out c s 0;have Ea:Hid (bB K p d t line lines size W1 (σ.aB a (o.pos c s j))):=by rw[<-fV,HJ0.out];exact GI.1
      have tN:Hid (Ch (λb=>¬K b) w W1):=by rw[<-fV];exact(Ch.au (S:=λb=>¬K b) (below_drewN (bZ _ _) nq)).trans GI.2 (λ_ hb _=>hb)
      rw[fV];clear fV GI;clear YU;have S1:Hid (Tab W1):=HT.out.ch tN.out (λh0=>h0 tC);clear c1 c7 fW fO dC f13 f14 f15 xa Ol tu K8
      obtain⟨ug,tA,oq,zB⟩:∃ug,(σ.aB a (o.pos c s j)).ops c=some ug/\ug.prog=oc.prog/\ug.aa=oc.aa:=by
       by_cases fA:c=a
       . have:oc=o:=by have h1:=GJ.out;have h2:=HA.out;rw[fA,h2]at h1;injection h1 with h1;exact h1.symm
         exact⟨o.pos c s j,aA fA,by rw[this];rfl,by rw[this];rfl⟩
       . exact⟨oc,(ax fA).trans GJ.out,rfl,rfl⟩
      obtain⟨xa,tu,fa,_,_,_,_,_,_,_,_,CA,_⟩:=Ea.out.h_ (a:=a) (o:=o.pos c s j) (aA rfl);obtain⟨Ol,K8,fc,_,_,_,_,_,_,pa,pc,CC,SP⟩:=Ea.out.h_ tA;rw[oq]at SP;have c1:W1.cell? ⟨a,1,none⟩=some (.pointer (some ⟨t o.th,0,none⟩)):=CA.c1;have dC:W1.cell? ⟨a,15,none⟩=some (.int .i64 j):=CA.dC;have c8:W1.cell? ⟨c,8,none⟩=some (.slice pa oc.prog.length pc):=by have:=CC.c8;rwa[oq]at this
      obtain⟨g,off,fL,eh,t1,t2,t3⟩:=SP.ins hj;rw[Ta.out]at t1 t2 t3;subst fL;have x9:=ag (λ(W:World) (HW:bB K p d t line lines size W (σ.aB a (o.pos c s j)))=>Fs HW (λF hD=>GM.out W F hD));obtain⟨m,hm⟩:=aH oc.prog.length;have HM:=ag hm;rw[hm]at c8 hj Jj HQ;have hjI:(j:Int)<(m:Int):=by omega
      have e1:IntKind.i64.wrap ((j:Int)+1)=(j:Int)+1:=b9 _ ae;have e2:IntKind.i64.wrap ((s:Int)+1)=(s:Int)+1:=b9 _ ae;have jx:=ag (VY.out.err o.th);have Zat:=ag tA;have Zar:Hid (ug.aa=s):=by show _=_;rw[zB,pk.out]
      have Zas:Hid (ug.prog.length=m):=by show _=_;rw[oq,hm]
      obtain⟨D',M_⟩:=aH (σ.dev.cW o.th q);rw[M_]at HQ x9 jx;obtain⟨q1,q2,q3⟩:=q;dsimp only at t1 t2 t3 x9;clear CA CC SP fa fc oq hm tA zB M_;refine aL 14 krQ krQ ?_;simp only[List.take_succ_cons,List.take_zero,jm,iq];repeat(go_big_quiet_step (fail))
      refine cE ?_;rintro _ ⟨y,rfl⟩;have J5:=ag (x9.out y.w (Ea.out.ko y.below));clear x9 GM c1 dC c8 t1 t2 t3 eh xa Ol tu K8;go_wp2_with (first|(go_at_call 138;refine J5.out.mono ?_;rintro e w2 ⟨rfl,hX,hC⟩;have rR:=ag hX;have dh:Hid (Ch (λb=>¬K b) w w2):=(tN.out.trans (Ch.au (S:=λb=>¬K b) y.below) (λ_ hb _=>hb)).trans hC (λ_ hb _=>hb);clear hX hC;obtain⟨xa,tu,fa,_,_,_,_,_,_,_,_,CA,_⟩:=rR.out.h_ (a:=a) (o:=o.pos c s j) (aA rfl);have c1:w2.cell? ⟨a,1,none⟩=some (.pointer (some ⟨t o.th,0,none⟩)):=CA.c1;have dC:w2.cell? ⟨a,15,none⟩=some (.int .i64 j):=CA.dC;have f15:=fa 15;clear CA fa)|(go_at_call 65;refine(rR.out.err o.th mK).mono ?_;rintro e w' ⟨rfl,rfl⟩;rw[jx.out]))
      obtain⟨w3,Eg⟩:=aH (w2.setCell ⟨a,15,none⟩ (.int .i64 ((j:Int)+1)));have jP:=bB.xE rR.out (a:=a) (o:=o.pos c s j) (aA rfl) (j+1);rw[show((j+1:Nat):Int)=(j:Int)+1 by omega,Eg]at jP
      have DD:({σ.aB a (o.pos c s j)with dev:=D'}:PwS).aB a {o.pos c s j with next:=j+1}=({σ with dev:=D'}:PwS).aB a (o.pos c s (j+1)):=by
       refine PwS.ext' rfl rfl rfl (λb=> ?_);show(if b=a then _ else if b=a then _ else σ.ops b)=if b=a then _ else σ.ops b
       split<;>rfl
      have D_:Hid (bB K p d t line lines size w3 (({σ with dev:=D'}:PwS).aB a (o.pos c s (j+1)))):=by rw[<-DD];exact jP.1
      have fo:Hid (Ch (λb=>¬K b) w w3):=dh.out.trans jP.2 (λ_ hb _=>hb)
      have ov:(({σ with dev:=D'}:PwS).aB a (o.pos c s (j+1))).ops c=some (if c=a then o.pos c s (j+1)else oc):=by
       show(if c=a then some (o.pos c s (j+1))else σ.ops c)=_
       split
       . rfl
       . exact GJ.out
      have zC:(if c=a then o.pos c s (j+1)else oc).prog=oc.prog/\(if c=a then o.pos c s (j+1)else oc).aa=s/\(if c=a then o.pos c s (j+1)else oc).es=oc.es/\(if c=a then o.pos c s (j+1)else oc).k=oc.k/\eU cnt n M (if c=a then o.pos c s (j+1)else oc):=by
       by_cases fA:c=a
       . have ho:oc=o:=by have h1:=GJ.out;have h2:=HA.out;rw[fA,h2]at h1;injection h1 with h1;exact h1.symm
         have hk:=Ho.out;have bh:=pk.out;rw[aA fA];rw[ho]at hk bh |-;exact⟨rfl,bh,rfl,rfl,hk.th,hk.k,hk.l1,hk.l6,hk.vS,hk.nd,hk.perm,hk.sl,hk.sr⟩
       . rw[ax fA]
         exact⟨rfl,pk.out,rfl,rfl,Ho.out⟩
      obtain⟨IK,pq⟩:=aH ((if c=a then o.pos c s (j+1)else oc));rw[pq]at ov zC HQ;obtain⟨x1,x2,x3,x4,x5⟩:=zC;obtain⟨Zaw,YX,_,_,_,_,_,_,_,_,_,Su,_⟩:=D_.out.h_ (a:=a) (o:=o.pos c s (j+1)) (aA rfl);obtain⟨Zav,YW,_,_,_,_,_,_,_,Yf,Ye,Ka,_⟩:=D_.out.h_ ov;have d15:w3.cell? ⟨a,15,none⟩=some (.int .i64 ((j:Int)+1)):=by have h9:w3.cell? ⟨a,15,none⟩=some (.int .i64 ((j+1:Nat):Int)):=Su.dC;exact h9
      have d8:w3.cell? ⟨c,8,none⟩=some (.slice Yf m Ye):=by have:=Ka.c8;rwa[x1,HM.out]at this
      have d7:w3.cell? ⟨c,7,none⟩=some (.int .i64 s):=by have:=Ka.c7;rwa[x2]at this
      have x_:Hid (∀W,bB K p d t line lines size W (({σ with dev:=D'}:PwS).aB a (o.pos c s (j+1)))->Tab W->Calls prog 139 #[.pointer (some ⟨c,0,none⟩), .int .i64 ((s+1:Nat):Int)] W λr w'=>r= .returned (.tuple #[])/\bB K p d t line lines size w' ((({σ with dev:=D'}:PwS).aB a (o.pos c s (j+1))).enter aR (cP line) c IK (s+1))/\Ch (λb=>¬K b) W w'):=λW HW U_=>
       ub HW tC U_ ov x5 hn (by rw[x4];exact HLI.out) (by rw[x3];exact NP.out) (s+1) (by have:=VS.out;omega)
      rw[show((s+1:Nat):Int)=(s:Int)+1 by omega]at x_;rw[Eg];clear Eg jP DD ov x1 x2 x3 x4 x5 Su Ka pq c1 dC f15 xa tu;by_cases iQ:j+1=m
      . have eD:((j:Int)+1==(m:Int))=true:=by rw[yQ];omega
        go_quiet (fail)
        go_wp2_with (go_at_call 139;refine(x_.out _ (D_.out.ko aC) (HT.out.ch (fo.out.trans (Ch.au (S:=λb=>¬K b) aC) (λ_ hb _=>hb)) (λh0=>h0 tC))).mono ?_;rintro e w5 ⟨rfl,hX,hC⟩;have BB:=ag hX;have rz:=ag hC;clear hX hC)
        go_end0
        have hq:=HQ.out;rw[aA iQ]at hq;rw[hq];exact⟨rfl,BB.out,(fo.out.trans (Ch.au (S:=λb=>¬K b) aC) (λ_ hb _=>hb)).trans rz.out (λ_ hb _=>hb)⟩
      . have eD:((j:Int)+1==(m:Int))=false:=by rw[vp];omega
        go_quiet (fail)
        go_wp2;go_end0
        have hq:=HQ.out;rw[ax iQ]at hq;rw[hq];exact⟨rfl,D_.out.ko aC,fo.out.trans (Ch.au (S:=λb=>¬K b) aC) (λ_ hb _=>hb)⟩
end
end Go.Proofs.YtjkpjakodomnmaaGreatDoor
