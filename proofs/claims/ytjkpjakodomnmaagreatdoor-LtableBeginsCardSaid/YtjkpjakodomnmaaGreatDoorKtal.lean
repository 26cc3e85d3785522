/- The base, part 12 (merged). -/
import Derived.Test.YtjkpjakodomnmaaGreatDoorKtak
import Derived.Deep.CutRange
import Derived.Laws.Bits64
set_option linter.unusedVariables false
set_option linter.unusedSimpArgs false
set_option maxRecDepth 100000
set_option maxHeartbeats 16000000
namespace Go.Proofs.YtjkpjakodomnmaaGreatDoor
open Go.RowKit Go.Proofs.Tryz
section
variable{F:Nat->Prop}{d:Nat}{t:Nat->Nat}{w w0:World}{S:aq}{n N:Nat}{xs:List Int}
theorem ZaW(h:DV F d t w0 S)(gq:Clean S n xs N)(hb:Below w0.heap.size w0 w)(A:Option Addr)(m cp:Nat)(ws:List (Int×Int))(hm:(bD ws).length=m)(hS:Sl 164 3 w A m cp (bw (bD ws)))(hA:∀b,ah A b->w0.heap.size<=b)(i:Nat)(hi:i<8)
 (hv:∀p∈ws,∃k:Nat,p.1=8*(k:Int)/\k<8*n) (hn:n<=4096) (hN:N+m<1000000):
 Calls prog 57 #[.slice A m cp, .iface 87 (.pointer (some ⟨t i,0,none⟩))] w λr w'=>r= .returned (.int .i64 0)/\(∃S',DV F d t w' S'/\Clean S' n (aO xs ws) (N+m))/\Ch F w0 w':=by
 subst hm;have h2:=h.less hb (λb=>ah A b) (λb bG=>⟨hA b bG,hS.lt bG⟩);have xo:=gq.stores hi ws hv hN;refine(Yt w h2 i hi gq.good A _ cp (bD ws) rfl hS (λb hb hf=>hf.2 hb) hN (λp hp=> ?_)).mono ?_
 . unfold bD at hp
   simp only[gG,gH]at hp;rcases hp with(hp|hp)|hp
   . obtain⟨p',hp',rfl⟩:=iJ.1 hp
     obtain⟨k,iy,fC⟩:=hv p' hp';exact⟨rfl,by show 0<=p'.1;omega,by show p'.1<_;omega⟩
   . obtain⟨l,hl,rfl⟩:=iJ.1 hp
     rw[qb]at hl;obtain⟨p',hp',rfl⟩:=iJ.1 hl;obtain⟨k,iy,fC⟩:=hv p' hp';exact⟨rfl,by show 0<=cG p'.1;unfold cG;omega,by show cG p'.1<_;unfold cG;omega⟩
   . subst hp
     exact⟨rfl,Int.le_refl _,by show(0:Int)<_;omega⟩
 . rintro r w' ⟨rfl,hD,hC⟩
   refine⟨by rw[xo.err i],⟨_,hD.mono (λb hb=>hb.1),xo⟩,?_⟩;exact(Ch.au hb).trans hC (λb hb _=>hb.1)
def eF(line cnt:Nat):List (Int×Int):=(List.range cnt).map λk=>(cP line k,1836515329)
theorem iL(line cnt:Nat):(eF line cnt).length=cnt:=by simp[eF]
theorem Jx(line cnt k:Nat)(hk:k<cnt):(eF line cnt).take (k+1)=(eF line cnt).take k++[(cP line k,1836515329)]:=by
 rw[iw (by rw[iL];exact hk)];congr 2;simp[eF]
theorem CL{line cnt:Nat}{p:Int×Int}(h:p∈eF line cnt):∃k,k<cnt/\p.1=cP line k:=by
 obtain⟨k,hk,rfl⟩:=iJ.1 h;exact⟨k,by simpa using hk,rfl⟩
theorem C8(line cnt:Nat):(starts (eF line cnt)).Pairwise (· <= ·):=by
 rw[A8];intro i j hi hj xn;simp only[starts,eF,vo,PJ];unfold cG cP;omega
def ZaC(w:World)(line cnt k:Nat)(A:Option Addr)(cp:Nat)(wr:World):Prop:=
 Sl 95 2 wr A k cp (az ((eF line cnt).take k))/\Below w.heap.size w wr/\∀b,ah A b->w.heap.size<=b
theorem P7(h:DV F d t w S)(gq:Clean S n xs N)(line lines:Nat)(h4:4<=lines)(hl:line+lines<=n)(hn:n<=48)(i:Nat)(hi:i<8)(hN:N+100<1000000):
 Calls prog 36 #[.iface 87 (.pointer (some ⟨t i,0,none⟩)), .int .i64 (line:Int), .int .i64 (lines:Int)] w λr w'=>r= .returned (.int .i64 0)/\(∃S',DV F d t w' S'/\Clean S' n (aO xs (eF line (lines/4))) (N+100))/\Ch F w w':=by
 have H:=ag h;have jk:=ag gq
 have S7:Hid (∀W,Below w.heap.size w W->Calls prog 221 #[.pointer (some ⟨t i,0,none⟩)] W λe w'=>e= .returned (.int .u64 ((n:Int)*64))/\W=w'):=λW hW=>by
  have:=Wi (h.below hW) i hi;rwa[gq.nl]at this
 have jx:Hid (∀W,Below w.heap.size w W->Calls prog 65 #[.pointer (some ⟨t i,0,none⟩)] W λe w'=>e= .returned (.int .i64 0)/\W=w'):=λW hW=>by
  have:=LQ (h.below hW) i hi;rwa[gq.err i]at this
 have UD:rgB (line:Int) (lines:Int) (n:Int)=true:=by unfold rgB;simp;omega
 have HVA:Hid (∀W,Calls prog 53 #[.agg #[.int .i64 (line:Int), .int .i64 (lines:Int), .int .u64 ((n:Int)*64)]] W λe w'=>e= .returned (.bool true)/\Below W.heap.size W w'):=λW=>by
  have:=Ko W line lines n ae ae ae;rwa[UD]at this
 obtain⟨m,hm⟩:=aH (lines/4)
 have NL:Hid (∀W,Calls prog 54 #[.agg #[.int .i64 (line:Int), .int .i64 (lines:Int), .int .u64 ((n:Int)*64)]] W λe w'=>e= .returned (.int .i64 (m:Int))/\Below W.heap.size W w'):=λW=>by
  have:=xD W line lines ((n:Int)*64) ae;rwa[hm]at this
 have NQ:Hid (∀W k,k<m->Calls prog 55 #[.agg #[.int .i64 (line:Int), .int .i64 (lines:Int), .int .u64 ((n:Int)*64)], .int .i64 (k:Int)] W λe w'=>e= .returned (.int .u64 (cP line k))/\Below W.heap.size W w'):=λW k hk=>T7 W line lines ((n:Int)*64) k ae
 have fv:1<=m/\m<=12/\line+4*m<=n:=by omega
 obtain⟨m1,m2,m3⟩:=fv;rw[hm];clear h gq UD hm;go_enter func36,ntmps36
 go_wp2_with (first|(go_at_call 221;refine(S7.out _ aC).mono ?_;rintro e w' ⟨rfl,rfl⟩)|(go_at_call 53;refine(HVA.out _).mono ?_;rintro e w' ⟨rfl,hb⟩;obtain⟨x,rfl⟩:=aE hb;clear hb)|(go_at_call 65;refine(jx.out _ aC).mono ?_;rintro e w' ⟨rfl,rfl⟩)|(go_at_call 54;refine(NL.out _).mono ?_;rintro e w' ⟨rfl,hb⟩;obtain⟨z,rfl⟩:=aE hb;clear hb))
 have jc:Hid (ZaC w line m 0 none 0 z.w):=⟨Sl.nil,by exact aC,by simp[ah]⟩;have Bm:w.heap.size<x.w.heap.size:=x.lt_size smQ;have QV:w.heap.size<z.w.heap.size:=z.lt_size Bm;have z0:z.w.cell? ⟨w.heap.size,0,none⟩=some (.int .i64 (line:Int)):=by go_simp
 have z1:z.w.cell? ⟨w.heap.size,1,none⟩=some (.int .i64 (lines:Int)):=by go_simp
 have z2:z.w.cell? ⟨w.heap.size,2,none⟩=some (.int .u64 ((n:Int)*64)):=by go_simp
 obtain⟨W0,nR⟩:=aH z.w;obtain⟨gr,ie⟩:=aH w.heap.size;have V1:=ag ie;have xw:Hid (Below w.heap.size w W0):=by rw[<-nR];show Below _ _ _;exact aC
 rw[nR]at jc QV z0 z1 z2;rw[ie]at QV z0 z1 z2;rw[nR,ie];have R_:Hid (ZaC W0 line m 0 none 0 W0):=⟨Sl.nil,bZ _ _,by simp[ah]⟩;clear nR ie jc Bm;go_loopw [28,9,10,29,30,31,32,33,34,35,36,37,38] (λi' rc _ _ _ _ _ _ _ _ _ _ _ wr=>∃(j:Nat) (A:Option Addr) (c:Nat),j<=m/\i'= .int .i64 j/\rc= .slice A j c/\ZaC W0 line m j A c wr) (λi' _ _ _ _ _ _ _ _ _ _ _ _ _=>m-(intOf i').toNat)
 case atStart=>exact⟨0,none,0,by omega,rfl,rfl,R_.out⟩
 case round=>
  clear R_;obtain⟨j,A,c,hj,rfl,rfl,hS,hB,hO⟩:=hrel;have HS:=ag hS;have HB:=ag hB;have HO:=ag hO;have y0:=(hB.cell (p:=⟨gr,0,none⟩) QV).trans z0;have y1:=(hB.cell (p:=⟨gr,1,none⟩) QV).trans z1;have y2:=(hB.cell (p:=⟨gr,2,none⟩) QV).trans z2;have vL:gr<wr.heap.size:=cD QV hB.size;clear hS hB hO;by_cases aM:j<m
  . have dx:(j:Int)<(m:Int):=by omega
    obtain⟨q,hq⟩:=aH (cP line j);have GU:=ag (λW=>NQ.out W j aM);have uN:=ag (Jx line m j aM);rw[hq]at GU uN;clear hq;go_wp2_with (first|(go_at_call 55;refine(GU.out _).mono ?_;rintro e w' ⟨rfl,hb⟩;obtain⟨y,rfl⟩:=aE hb;clear hb)|(at_builtin;refine ay rfl (.tmp 31) (.tmp 36) 92 rfl 95 (.agg #[.int .u64 0, .int .u64 0]) 2 16 rfl ae underlying92 eT ae A j c (az ((eF line m).take j)) ⟨y.w.heap.size,0,none⟩ 1 1 [.int .u64 q, .int .u64 1836515329] rfl rfl (HS.out.keep (λb hb=>(ai y.below _).block b (HS.out.lt hb))) rfl ae (jw y.w 95 _ _) (tO _ _) ae ?_;intro A4 c4 w4 lU eW mU uM))
    go_roundw
    case rel=>
     refine⟨j+1,A4,c4,by omega,by go_num,rfl,?_,?_,λb hb=> ?_⟩
     . rw[uN.out,jS];exact lU.out
     . exact bM (HB.out.trans ((ai y.below _).mono HB.out.size)) eW.out (λb hb=>HO.out b hb)
     . have h1:=HB.out.size
       have h2:=y.size;rcases mU.out b hb with h|h
       . exact HO.out b h
       . rw[h];simp;omega
    case measure=>simp[intOf];omega
  . obtain rfl:j=m:=by omega
    have hft:(eF line j).take j=eF line j:=fR (by rw[iL];omega);have hS:=HS.out;rw[hft]at hS;have R7:=ag hS;have BG:Hid (Below w.heap.size w wr):=xw.out.trans (HB.out.mono xw.out.size)
    have fX:Hid (Calls prog 56 #[.slice A j c] wr (jO wr (bD (eF line j)))):=by
     refine Mz wr A j c (eF line j) (iL _ _) m1 m2 R7.out (λp hp=> ?_) (C8 _ _);obtain⟨k,hk,MM⟩:=CL hp;rw[MM];unfold cP;omega
    have tG:(bD (eF line j)).length<=100:=by
     have h1:=qd (ws:=eF line j);have h2:=Aa (starts (eF line j));have h3:(starts (eF line j)).length=j:=by simp[starts,iL]
     rw[iL]at h1;omega
    clear hft hS;go_wp2_with (first|(go_at_call 56;refine fX.out.mono ?_;rintro r w2 ⟨A2,cp2,rfl,Xf,wQ,Xh⟩;have HS3:=ag Xf;have xx:Hid (Below w.heap.size w w2):=BG.out.trans (wQ.mono BG.out.size);have w_:Hid (∀b,ah A2 b->w.heap.size<=b):=(λb hb=>by have h1:=Xh b hb;have h3:=BG.out.size;omega);clear Xf wQ Xh)|(go_at_call 57;refine(ZaW H.out jk.out xx.out A2 _ cp2 (eF line j) rfl HS3.out w_.out i hi (λp hp=>by obtain⟨k,hk,MM⟩:=CL hp;exact⟨8*(line+4*k),by rw[MM];rfl,by omega⟩) ae ae).mono ?_;rintro r w3 ⟨rfl,⟨S3,Re,o7⟩,ZbW⟩;have XH:=ag Re;have fo:=ag o7;have Zd2:=ag ZbW;clear Re o7 ZbW))
    go_ret;exact⟨rfl,⟨S3,XH.out,⟨fo.out.good.mono ae,fo.out.nl,fo.out.cur,fo.out.cg,fo.out.off,fo.out.armed,fo.out.bL,fo.out.err,fo.out.notes⟩⟩,Zd2.out⟩
end
theorem IE(w:World)(gc gb cl m:Nat)(ws:List Int)(hf:Fits ws)(hc:w.cell? ⟨gc,0,none⟩=some (.slice (some ⟨gb,0,none⟩) m cl))(hI:IB .u8 5 w gb (gY ws))(hm:8*ws.length=m)(oM:m<=1000000)(k:Nat)(hk:k<ws.length)(v:Int)(hv:ws[k]?=some v):
 Calls prog 90 #[.int .u64 (8*(k:Int)), .pointer (some ⟨gc,0,none⟩)] w λe w'=>e= .returned (.int .u64 v)/\w=w':=by
 have HI:=ag hI;have HM:=ag hm;have eh:gb<w.heap.size:=hI.lt;have gq:gc<w.heap.size:=sR w _ hc;obtain⟨kG,hkv⟩:=ki.1 hv;have hvr:=hf _ (fq kG);rw[hkv]at hvr;have HV:=ag hv;have HVR:=ag hvr;have hk8:8*k+8<=1000000:=by omega
 clear hI hm hf hv hkv;go_enter func90,ntmps90
 go_wp2;go_loopw [6,4,5,7,8,9,10,11,12,13,14,15,16,17,18,19,20,21] (λi a _ _ _ _ _ _ _ _ _ _ _ _ _ _ _ _ wr=>∃s:Nat,s<=8/\i= .int .u64 s/\a= .int .u64 (v%2^(s*8))/\w=wr) (λi _ _ _ _ _ _ _ _ _ _ _ _ _ _ _ _ _ _=>8-(intOf i).toNat)
 case atStart=>exact⟨0,by omega,rfl,by simp,rfl⟩
 case round=>
  obtain⟨s,hs,rfl,rfl,rfl⟩:=hrel;by_cases aM:s<8
  . have dx:(s:Int)<8:=by omega
    have hj:8*k+s<(gY ws).length:=by rw[jA];omega
    have AG:=HI.out.cell hj
    have hq:tD ws (8*k+s)=v/2^(s*8)%256:=by
     unfold tD;rw[show(8*k+s)/8=k by omega,HV.out,show(8*k+s)%8=s by omega];rfl
    rw[Ad,hq]at AG;have SI:=Uf v HVR.out s aM;obtain⟨bt,NZ⟩:=aH (v/2^(s*8)%256);have hbr:0<=bt/\bt<256:=by omega
    obtain⟨ac,hac⟩:=aH (v%2^(s*8));obtain⟨nx,fx⟩:=aH (v%2^((s+1)*8));have jP:=ag fx;rw[NZ]at AG SI;rw[hac,fx]at SI;rw[hac];have e1:IntKind.u64.wrap (8*(k:Int)+(s:Int))=8*(k:Int)+(s:Int):=bY _ ae;have e2:IntKind.u64.wrap (8*(s:Int))=8*(s:Int):=bY _ ae;have e3:IntKind.u64.wrap bt=bt:=bY _ ae;have e4:(8*(k:Int)+(s:Int)).toNat=8*k+s:=by omega
    have e5:(8*(s:Int)).toNat=s*8:=by omega
    have e6:IntKind.u64.wrap ((s:Int)+1)=(s:Int)+1:=bY _ ae;have e7:8*(k:Int)+(s:Int)<(m:Int):=by have:=HM.out;omega
    have e8:¬64<=s*8:=by omega
    clear NZ hac fx hq hj;go_wp2;exact⟨⟨s+1,by omega,by go_num,by rw[jP.out],trivial⟩,by simp[intOf];omega⟩
  . obtain rfl:s=8:=by omega
    have hv8:v%2^(8*8)=v:=by have:=HVR.out;omega
    rw[hv8];clear hv8;go_wp2;go_ret;exact⟨rfl,rfl⟩
theorem Pg(w:World)(line lines size:Int)(gc:Nat)(off:Int)(HL:∀W,Below w.heap.size w W->Calls prog 90 #[.int .u64 off, .pointer (some ⟨gc,0,none⟩)] W λe w'=>e= .returned (.int .u64 1836515329)/\W=w'):
 Calls prog 124 #[.agg #[.int .i64 line, .int .i64 lines, .int .u64 size], .func (.func 90) #[] #[.pointer (some ⟨gc,0,none⟩)], .int .u64 off] w λe w'=>e= .returned (.tuple #[.agg #[.int .u8 1, .slice none 0 0, .slice none 0 0], .bool true])/\Below w.heap.size w w':=by
 have HL:=ag HL;go_enter func124,ntmps124
 go_wp2_with (go_at_call 90;refine(HL.out _ aC).mono ?_;rintro e w' ⟨rfl,rfl⟩)
 exact bH (v:= .tuple #[.agg #[.int .u8 1, .slice none 0 0, .slice none 0 0], .bool true]) (by simp[results,results124,go_sem]) rfl ⟨rfl,aC⟩
def D9(wr:World)(s8 s9:Value)(wx:World):Prop:=∃gd,s8= .pointer (some ⟨gd,0,none⟩)/\s9= .bool true/\CB wx gd 176 #[.int .u8 1, .slice none 0 0, .slice none 0 0]/\Below wr.heap.size wr wx
theorem Kr{wr X:World}(h:Below wr.heap.size wr X):D9 wr (.pointer (some ⟨X.heap.size,0,none⟩)) (.bool true) (X.alloc (.cells #[.int .u8 1, .slice none 0 0, .slice none 0 0] 176)):=⟨_,rfl,rfl,CB.new _ _ _,ai h _⟩
theorem Kq{wr X:World}{g:Nat}{a b c:Value}(hc:CB X g 176 #[a,b,c])(h:Below wr.heap.size wr X)(hg:wr.heap.size<=g):D9 wr (.pointer (some ⟨g,0,none⟩)) (.bool true) (((X.setCell ⟨g,0,none⟩ (.int .u8 1)).setCell ⟨g,1,none⟩ (.slice none 0 0)).setCell ⟨g,2,none⟩ (.slice none 0 0)):=
 ⟨_,rfl,rfl,((hc.set 0 _).set 1 _).set 2 _,gZ (gZ (gZ h hg _) hg _) hg _⟩
theorem FO:(prog.info? 176).map (λi=>(i.zero,i.size,i.bytes))=some (some (.agg #[.int .u8 0, .slice none 0 0, .slice none 0 0]),3,56):=by kernel_rfl
def recs(k:Nat):List Value:=(List.replicate k [Value.int .u8 1, .slice none 0 0, .slice none 0 0]).flatten
theorem qN(k:Nat):recs (k+1)=recs k++[.int .u8 1, .slice none 0 0, .slice none 0 0]:=by
 unfold recs;rw[List.replicate_succ',List.flatten_append];simp
theorem wH(k:Nat):(recs k).length=k*3:=by induction k with
 |zero=>rfl
 |succ k ih=>rw[qN,dO,ih];simp;omega
theorem Kp:∀u∈([.int .u8 1, .slice none 0 0, .slice none 0 0]:List Value),u.oneCell'=true:=by
 intro u hu;simp only[dr,fH,gF]at hu;rcases hu with rfl|rfl|rfl<;>rfl
theorem T8(w:World)(line lines m:Nat)(size:Int)(hm:lines/4=m)(hl:line+lines<1000)(gc:Nat)(HL:∀W,Below w.heap.size w W->∀k,k<m->Calls prog 90 #[.int .u64 (cP line k), .pointer (some ⟨gc,0,none⟩)] W λe w'=>e= .returned (.int .u64 1836515329)/\W=w'):
 Calls prog 91 #[.agg #[.int .i64 (line:Int), .int .i64 (lines:Int), .int .u64 size], .func (.func 90) #[] #[.pointer (some ⟨gc,0,none⟩)]] w λe w'=>∃A c,e= .returned (.tuple #[.slice A m c, .bool true])/\Sl 176 3 w' A m c (recs m)/\Below w.heap.size w w'/\∀b,ah A b->w.heap.size<=b:=by
 have HL:=ag HL
 have NL:Hid (∀W,Calls prog 54 #[.agg #[.int .i64 (line:Int), .int .i64 (lines:Int), .int .u64 size]] W λe w'=>e= .returned (.int .i64 (m:Int))/\Below W.heap.size W w'):=λW=>by
  have:=xD W line lines size ae;rwa[hm]at this
 have NQ:Hid (∀W k,k<m->Calls prog 55 #[.agg #[.int .i64 (line:Int), .int .i64 (lines:Int), .int .u64 size], .int .i64 (k:Int)] W λe w'=>e= .returned (.int .u64 (cP line k))/\Below W.heap.size W w'):=λW k hk=>T7 W line lines size k ae
 have oM:m<=250:=by omega
 clear hm hl;go_enter func91,ntmps91
 go_wp2_with (go_at_call 54;refine(NL.out _).mono ?_;rintro e w' ⟨rfl,hb⟩;obtain⟨x,rfl⟩:=aE hb;clear hb)
 have Bm:w.heap.size<x.w.heap.size:=x.lt_size smQ;have z0:x.w.cell? ⟨w.heap.size,0,none⟩=some (.int .i64 (line:Int)):=by go_simp
 have z1:x.w.cell? ⟨w.heap.size,1,none⟩=some (.int .i64 (lines:Int)):=by go_simp
 have z2:x.w.cell? ⟨w.heap.size,2,none⟩=some (.int .u64 size):=by go_simp
 have xw:Hid (Below w.heap.size w x.w):=by show Below _ _ _;exact aC
 obtain⟨W0,nR⟩:=aH x.w;obtain⟨gr,ie⟩:=aH w.heap.size;have V1:=ag ie;rw[nR]at Bm z0 z1 z2 xw;rw[ie]at Bm z0 z1 z2;rw[nR,ie];clear nR ie;go_loopw [12,6,7,8,9,13,14,15,16,17,18,19,20,21,22,23,24,25,26,27,28,29,30] (λi' rc _ _ _ _ _ _ _ _ _ _ _ _ _ _ _ _ _ _ _ _ _ wr=>∃(j:Nat) (A:Option Addr) (c:Nat),j<=m/\i'= .int .i64 j/\rc= .slice A j c/\Sl 176 3 wr A j c (recs j)/\Below W0.heap.size W0 wr/\∀b,ah A b->W0.heap.size<=b) (λi' _ _ _ _ _ _ _ _ _ _ _ _ _ _ _ _ _ _ _ _ _ _ _=>m-(intOf i').toNat)
 case atStart=>exact⟨0,none,0,by omega,rfl,rfl,Sl.nil,bZ _ _,by simp[ah]⟩
 case round=>
  obtain⟨j,A,c,hj,rfl,rfl,hS,hB,hO⟩:=hrel;have HS:=ag hS;have HB:=ag hB;have HO:=ag hO;have y0:=(hB.cell (p:=⟨gr,0,none⟩) Bm).trans z0;have y1:=(hB.cell (p:=⟨gr,1,none⟩) Bm).trans z1;have y2:=(hB.cell (p:=⟨gr,2,none⟩) Bm).trans z2;have vL:gr<wr.heap.size:=cD Bm hB.size;have V9:Hid (Below w.heap.size w wr):=xw.out.trans (hB.mono xw.out.size);clear hS hB hO;by_cases aM:j<m
  . have dx:(j:Int)<(m:Int):=by omega
    have GU:=ag (λW=>NQ.out W j aM);have HLJ:Hid (∀W,Below wr.heap.size wr W->∀W2,Below W.heap.size W W2->Calls prog 90 #[.int .u64 (cP line j), .pointer (some ⟨gc,0,none⟩)] W2 λe w'=>e= .returned (.int .u64 1836515329)/\W2=w'):=λW hW W2 eM=>HL.out W2 ((V9.out.trans (hW.mono V9.out.size)).trans (eM.mono (f_ V9.out.size hW.size))) j aM
    obtain⟨q,hq⟩:=aH (cP line j);rw[hq]at GU HLJ;clear hq;go_wp2;go_cut [8,9]from 15 to 30 (λs8 s9 wx=>D9 wr s8 s9 wx)
    case first=>
     go_region_held3 (λw'=>w'.cell? ⟨gr,0,none⟩=some (.int .i64 (line:Int))/\w'.cell? ⟨gr,1,none⟩=some (.int .i64 (lines:Int))/\w'.cell? ⟨gr,2,none⟩=some (.int .u64 size)/\gr<w'.heap.size/\Below wr.heap.size wr w')
      ((refine⟨?_,?_,?_,?_,?_⟩<;>first|assumption|((repeat(first|with_reducible(first|exact bZ _ _|refine ai ?_ _|refine ru ?_|refine iT ?_ _|refine ji ?_ _|exact BX.below _|refine gZ ?_ (by first|(exact a_ _)|(simp;done)|(simp;omega)) _)|assumption));done)|(refine gZ (gZ (gZ ?_ NS _) NS _) NS _;(repeat(first|with_reducible(first|exact bZ _ _|refine ai ?_ _|refine ru ?_|refine iT ?_ _|refine ji ?_ _|exact BX.below _|refine gZ ?_ (by first|(exact a_ _)|(simp;done)|(simp;omega)) _)|assumption));done)|(go_simp;done)|(simp;omega)))
      (first|(go_at_call 55;refine(GU.out _).mono ?_;rintro e w' ⟨rfl,hb⟩;obtain⟨y,rfl⟩:=aE hb;clear hb;have NS:wr.heap.size<=y.w.heap.size:=(by have h9:=y.size;first|exact h9|(simp at h9;omega));have SL:gr<y.w.heap.size:=y.lt_size (by first|exact vL|(simp;omega));have k0:y.w.cell? ⟨gr,0,none⟩=some (.int .i64 (line:Int)):=(y.cell gr 0 (by first|exact vL|(simp;omega))).trans (by first|exact y0|go_simp);have k1:y.w.cell? ⟨gr,1,none⟩=some (.int .i64 (lines:Int)):=(y.cell gr 1 (by first|exact vL|(simp;omega))).trans (by first|exact y1|go_simp);have k2:y.w.cell? ⟨gr,2,none⟩=some (.int .u64 size):=(y.cell gr 2 (by first|exact vL|(simp;omega))).trans (by first|exact y2|go_simp))|(go_at_call 124;refine(Pg _ (line:Int) (lines:Int) size gc q (HLJ.out _ aC)).mono ?_;rintro e w' ⟨rfl,hb⟩;obtain⟨yy,rfl⟩:=aE hb;clear hb;have Zda:gr<yy.w.heap.size:=yy.lt_size (by first|exact SL|(simp;omega));have r0:yy.w.cell? ⟨gr,0,none⟩=some (.int .i64 (line:Int)):=(yy.cell gr 0 (by first|exact SL|(simp;omega))).trans (by first|exact k0|go_simp);have r1:yy.w.cell? ⟨gr,1,none⟩=some (.int .i64 (lines:Int)):=(yy.cell gr 1 (by first|exact SL|(simp;omega))).trans (by first|exact k1|go_simp);have r2:yy.w.cell? ⟨gr,2,none⟩=some (.int .u64 size):=(yy.cell gr 2 (by first|exact SL|(simp;omega))).trans (by first|exact k2|go_simp)))
     all_goals go_wp2
     all_goals go_meet
     all_goals first
      |exact Kr aC
      |exact Kq (by first|with_reducible exact(CB.br _ _ _ rfl).bx yy|with_reducible exact((CB.br _ _ _ rfl).bx y).bx yy|exact(((CB.br _ _ _ rfl).drew).bx y).bx yy) aC (by first|exact a_ _|exact NS|(simp;omega))
    case rest=>
     obtain⟨gd,rfl,rfl,Na,hBd⟩:=hcut;have d0:wc.cell? ⟨gd,0,none⟩=some (.int .u8 1):=Na.cell 0;have d1:wc.cell? ⟨gd,1,none⟩=some (.slice none 0 0):=Na.cell 1;have d2:wc.cell? ⟨gd,2,none⟩=some (.slice none 0 0):=Na.cell 2;have DM:gd<wc.heap.size:=Na.lt;have Si:=ag hBd;clear Na hBd y0 y1 y2;go_wp2_with (at_builtin;refine ay rfl (.tmp 26) (.tmp 28) 168 rfl 176 (.agg #[.int .u8 0, .slice none 0 0, .slice none 0 0]) 3 56 rfl ae underlying168 FO ae A j c (recs j) ⟨wc.heap.size,0,none⟩ 1 1 [.int .u8 1, .slice none 0 0, .slice none 0 0] rfl rfl (HS.out.keep (λb hb=>(ai Si.out _).block b (HS.out.lt hb))) rfl ae (dE wc 176 _ _ _) Kp ae ?_;intro A4 c4 w4 lU eW mU uM)
     go_roundw
     case rel=>
      refine⟨j+1,A4,c4,by omega,by go_num,rfl,?_,?_,λb hb=> ?_⟩
      . rw[qN];exact lU.out
      . exact bM (HB.out.trans ((ai Si.out _).mono HB.out.size)) eW.out (λb hb=>HO.out b hb)
      . have h1:=HB.out.size
        have h2:=Si.out.size;rcases mU.out b hb with h|h
        . exact HO.out b h
        . rw[h];simp;omega
     case measure=>simp[intOf];omega
  . obtain rfl:j=m:=by omega
    clear y0 y1 y2;go_wp2;refine bH (v:= .tuple #[.slice A j c, .bool true]) (by simp[results,results91,go_sem]) rfl ⟨A,c,rfl,HS.out,V9.out,λb hb=>by have:=HO.out b hb;have:=xw.out.size;omega⟩
section
variable{K F:Nat->Prop}{d:Nat}{t:Nat->Nat}{w w':World}{S:aq}{n N:Nat}{xs:List Int}
def AB(w:World)(ws:List Int)(n:Nat)(e:Ending)(w':World):Prop:=∃g,e= .returned (.slice (some ⟨g,0,none⟩) n n)/\IB .u8 5 w' g (gY ws)/\w.heap.size<=g/\Below w.heap.size w w'
theorem Rs(w:World){L:Lay}(h:dw w d L S)(hf:Fits S.cur)(n m:Nat)(hn:S.cur.length=n)(hm:8*n=m):Calls prog 89 #[.pointer (some ⟨d,0,none⟩)] w (AB w S.cur m):=by
 have h0:=h.Lu;have hl:=h.lt;have K9:n<=32768:=by have:=h.np;have:=h.nc;have:=h.nl;omega
 have hB:=λc=>RJ w (some ⟨L.cb,0,none⟩) n c S.cur hn K9 hf h.cur.rdW
 rw[hn]at h0;rw[hm]at hB;have HB:=ag hB;clear h hf hB;go_enter func89,ntmps89
 go_wp2_with (go_at_call 121;refine(HB.out _).mono ?_;rintro e w' ⟨g,rfl,hI,hg,hb⟩;have HI:=ag hI;have HG:=ag hg;have V8:=ag hb;clear hI hg hb)
 go_ret;exact⟨g,rfl,HI.out,HG.out,V8.out⟩
theorem XN(h:DV F d t w S)(hf:Fits S.cur)(n m:Nat)(hn:S.cur.length=n)(hm:8*n=m):Calls prog 89 #[.pointer (some ⟨d,0,none⟩)] w (AB w S.cur m):=by
 obtain⟨_,L,rfl,h3,_⟩:=h;exact Rs w h3 hf n m hn hm
theorem EE(h:DV F d t w S):Calls prog 88 #[.pointer (some ⟨d,0,none⟩)] w λe w'=>e= .returned (.int .u64 ((S.bA.length:Int)*64))/\w=w':=by
 obtain⟨_,L,rfl,h3,_⟩:=h;exact uH w d L S h3
theorem bB.new{p bb m line lines:Nat}{size:Int}(hD:DV F d t w S)(hB:Below w.heap.size w w')
 (hp:CB w' p 172 #[.pointer (some ⟨d,0,none⟩), .int .i64 line, .int .i64 lines, .int .u64 size, .slice (some ⟨bb,0,none⟩) m m, .pointer none])
 (hb:Sl 4 1 w' (some ⟨bb,0,none⟩) m m (bools (List.replicate m false))) (WJ:w.heap.size<=p) (px:w.heap.size<=bb) (aG:p≠bb) (hK:∀b,K b->b<w.heap.size/\¬F b):
 bB K p d t line lines size w' {dev:=S,busy:=List.replicate m false,cur:=none,ops:=λ_=>none}:=by
 have hs:=hB.size;classical
 refine⟨λb=>if b=p\/b=bb then 2 else if F b then 1 else 0,bb,⟨?_,?_,?_,by simp,by simp,aG,λa o ho=>by cases ho⟩,λb bG=> ?_⟩
 . refine(hD.less hB (λb=>b=p\/b=bb) (λb hx=> ?_)).mono (λb hf=> ?_)
   . rcases hx with rfl|rfl
     . exact⟨WJ,hp.lt⟩
     . exact⟨px,hb.lt (by simp[ah])⟩
   . left
     show(if _ then _ else if _ then _ else _)=1
     rw[ax hf.2,aA hf.1]
 . show CB w' p _ #[_,_,_,_, .slice _ (List.replicate m false).length (List.replicate m false).length,fu none]
   rw[yO];exact hp
 . show Sl _ _ _ _ (List.replicate m false).length (List.replicate m false).length _
   rw[yO];exact hb
 . obtain⟨h1,h2⟩:=hK b bG
   refine⟨?_,by omega⟩;show(if _ then _ else if _ then _ else _)=0
   rw[ax ae,ax h2]
def LA(w:World)(d line lines m:Nat)(size:Int)(e:Ending)(w':World):Prop:=
 ∃p bb,e= .returned (.tuple #[.pointer (some ⟨p,0,none⟩), .int .i64 0])/\CB w' p 172 #[.pointer (some ⟨d,0,none⟩), .int .i64 line, .int .i64 lines, .int .u64 size, .slice (some ⟨bb,0,none⟩) m m, .pointer none]/\
  Sl 4 1 w' (some ⟨bb,0,none⟩) m m (bools (List.replicate m false))/\w.heap.size<=p/\w.heap.size<=bb/\p≠bb/\Below w.heap.size w w'
theorem rj:(prog.info? 4).map (λi=>(i.zero,i.size,i.bytes))=some (some (.bool false),1,1):=by kernel_rfl
theorem Da{w:World}{g:Nat}{bs:List Bool}{m:Nat}(h:CB w g 4 (bools bs).toArray)(hl:bs.length=m)(hm:m<=1000):Sl 4 1 w (some ⟨g,0,none⟩) m m (bools bs):=by
 subst hl;refine⟨by simp[bools], .inr ⟨g,0,_,rfl,h,a_ _,by show bs.length<=9223372036854775807;omega,by simp[bools],?_⟩⟩;simp only[iq,wo];rw[fR (by simp[bools])]
theorem lh(W:World)(m:Nat)(hm:m<=1000):(Instr.makeSlice 122 (.int .i64 (m:Int)) (.int .i64 (m:Int))).run prog W= .ok (.slice (some ⟨W.heap.size,0,none⟩) m m) (W.alloc (.cells (bools (List.replicate m false)).toArray 4)):=by
 cases hi:prog.info? 4 with
 |none=>have:=rj;rw[hi]at this;cases this
 |some i=>
  have bp:=rj;rw[hi]at bp;simp only[Option.map_some,sP,rY]at bp;obtain⟨hz,hs,hb⟩:=bp;have hr:=run_make (P:=prog) W 122 4 i (.bool false) underlying122 hi hz .i64 .i64 m m ae ae (by rw[hb];omega) ae;rw[hr,hs];simp only[Int.toNat_natCast,wo];congr 3;congr 1;simp only[madeCells,Value.cells,bools,Fm];apply Array.ext
  . simp
  . intro i h1 h2
    simp[Fa]
theorem X9(h:DV F d t w S)(hx:S.cur=xs)(K9:S.bA.length=n)(Ze:xs.length=8*n)(hf:Fits xs)(line lines m:Nat)(hm:lines/4=m)(h4:4<=lines)(hl:line+lines<=n)(hn:n<=999)(hu:∀k,k<m->xs[8*(line+4*k)]?=some 1836515329):
 Calls prog 62 #[.pointer (some ⟨d,0,none⟩), .int .i64 (line:Int), .int .i64 (lines:Int)] w (LA w d line lines m ((n:Int)*64)):=by
 have S7:Hid (∀W,Below w.heap.size w W->Calls prog 88 #[.pointer (some ⟨d,0,none⟩)] W λe w'=>e= .returned (.int .u64 ((n:Int)*64))/\W=w'):=λW hW=>by
  have:=EE (h.below hW);rwa[K9]at this
 have HCU:Hid (∀W,Below w.heap.size w W->Calls prog 89 #[.pointer (some ⟨d,0,none⟩)] W (AB W xs (64*n))):=λW hW=>by
  have:=XN (h.below hW) (by rw[hx];exact hf) (8*n) (64*n) (by rw[hx];exact Ze) ae;rwa[hx]at this
 have UD:rgB (line:Int) (lines:Int) (n:Int)=true:=by unfold rgB;simp;omega
 have HVA:Hid (∀W,Calls prog 53 #[.agg #[.int .i64 (line:Int), .int .i64 (lines:Int), .int .u64 ((n:Int)*64)]] W λe w'=>e= .returned (.bool true)/\Below W.heap.size W w'):=λW=>by
  have:=Ko W line lines n ae ae ae;rwa[UD]at this
 have NL:Hid (∀W,Calls prog 54 #[.agg #[.int .i64 (line:Int), .int .i64 (lines:Int), .int .u64 ((n:Int)*64)]] W λe w'=>e= .returned (.int .i64 (m:Int))/\Below W.heap.size W w'):=λW=>by
  have:=xD W line lines ((n:Int)*64) ae;rwa[hm]at this
 have iV:Hid (∀(W:World) (gc gb:Nat),W.cell? ⟨gc,0,none⟩=some (.slice (some ⟨gb,0,none⟩) (64*n) (64*n))->IB .u8 5 W gb (gY xs)->Calls prog 91 #[.agg #[.int .i64 (line:Int), .int .i64 (lines:Int), .int .u64 ((n:Int)*64)], .func (.func 90) #[] #[.pointer (some ⟨gc,0,none⟩)]] W λe w'=>∃A c,e= .returned (.tuple #[.slice A m c, .bool true])/\Sl 176 3 w' A m c (recs m)/\Below W.heap.size W w'/\∀b,ah A b->W.heap.size<=b):=λW gc gb hc hI=>
  T8 W line lines m ((n:Int)*64) hm ae gc (λW2 eM k hk=>by
   have eh:gc<W.heap.size:=sR W _ hc;exact IE W2 gc gb (64*n) (64*n) xs hf ((eM.cell (p:=⟨gc,0,none⟩) eh).trans hc) (hI.below eM hI.lt) ae ae (8*(line+4*k)) ae _ (hu k hk))
 have oM:m<=1000:=by omega
 clear h hx K9 Ze hf hu UD hm;have zE:=λ(W:World)=>lh W m oM
 go_enter func62,ntmps62
 go_wp2_with (first
  |(go_at_call 88;refine(S7.out _ aC).mono ?_;rintro e w' ⟨rfl,rfl⟩)
  |(go_at_call 53;refine(HVA.out _).mono ?_;rintro e w' ⟨rfl,hb⟩;obtain⟨x,rfl⟩:=aE hb;clear hb;have Bm:w.heap.size<x.w.heap.size:=x.lt_size smQ;have x0:x.w.cell? ⟨w.heap.size,0,none⟩=some (.int .i64 (line:Int)):=(by go_simp);have x1:x.w.cell? ⟨w.heap.size,1,none⟩=some (.int .i64 (lines:Int)):=(by go_simp);have x2:x.w.cell? ⟨w.heap.size,2,none⟩=some (.int .u64 ((n:Int)*64)):=(by go_simp))
  |(go_at_call 89;refine(HCU.out _ aC).mono ?_;rintro e w' ⟨gb,rfl,hI,hg,hb⟩;have HI:=ag hI;have HG:=ag hg;have eh:=hI.lt;obtain⟨y,rfl⟩:=aE hb;clear hb hI hg;have SL:w.heap.size<y.w.heap.size:=y.lt_size Bm;have y0:y.w.cell? ⟨w.heap.size,0,none⟩=some (.int .i64 (line:Int)):=(y.cell _ _ Bm).trans x0;have y1:y.w.cell? ⟨w.heap.size,1,none⟩=some (.int .i64 (lines:Int)):=(y.cell _ _ Bm).trans x1;have y2:y.w.cell? ⟨w.heap.size,2,none⟩=some (.int .u64 ((n:Int)*64)):=(y.cell _ _ Bm).trans x2)
  |(go_at_call 91;refine(iV.out _ y.w.heap.size gb (by go_simp) (HI.out.alloc _)).mono ?_;rintro e w' ⟨A,c,rfl,hS,hb,hO⟩;obtain⟨z,rfl⟩:=aE hb;clear hb hS hO;have QV:w.heap.size<z.w.heap.size:=z.lt_size (by simp;omega);have z0:z.w.cell? ⟨w.heap.size,0,none⟩=some (.int .i64 (line:Int)):=(by go_simp);have z1:z.w.cell? ⟨w.heap.size,1,none⟩=some (.int .i64 (lines:Int)):=(by go_simp);have z2:z.w.cell? ⟨w.heap.size,2,none⟩=some (.int .u64 ((n:Int)*64)):=(by go_simp)))
 go_region_with (go_at_call 54;refine(NL.out _).mono ?_;rintro e w' ⟨rfl,hb⟩;obtain⟨u,rfl⟩:=aE hb;clear hb;have hgu:w.heap.size<u.w.heap.size:=u.lt_size (by first|exact QV|(simp;omega));have u0:u.w.cell? ⟨w.heap.size,0,none⟩=some (.int .i64 (line:Int)):=(u.cell _ _ (by first|exact QV|(simp;omega))).trans (by first|exact z0|go_simp);have u1:u.w.cell? ⟨w.heap.size,1,none⟩=some (.int .i64 (lines:Int)):=(u.cell _ _ (by first|exact QV|(simp;omega))).trans (by first|exact z1|go_simp);have u2:u.w.cell? ⟨w.heap.size,2,none⟩=some (.int .u64 ((n:Int)*64)):=(u.cell _ _ (by first|exact QV|(simp;omega))).trans (by first|exact z2|go_simp))
 all_goals go_wp2
 all_goals refine bH (v:= .tuple #[.pointer (some ⟨u.w.heap.size+1,0,none⟩), .int .i64 0]) (by simp[results,results62,go_sem]) rfl ?_
 all_goals refine⟨u.w.heap.size+1,u.w.heap.size,rfl,?_,?_,?_,?_,by omega,aC⟩
 all_goals first
  |exact CB.br _ _ _ smQ
  |exact Da (CB.alloc (CB.br _ _ _ rfl) _) smQ oM
  |omega
end
def nC(x c:Nat):Nat:=(x*c)%18446744073709551616
def Ee(x s:Nat):Nat:=x^^^(x>>>s)
def cr(k:Int):Nat:=Ee (nC (Ee (nC (Ee k.toNat 30) 13787848793156543929) 27) 10723151780598845931) 31
def uo(NN:Nat):Value:= .agg #[.int .u64 2048, .int .u64 8, .int .u64 NN]
theorem C4(w:World)(NN b:Nat)(hb:b<1000000):
 Calls prog 60 #[uo NN, .int .u64 (b:Int)] w λe w'=>e= .returned (.int .u64 (8*((eJ 256 b:Nat):Int)))/\Below w.heap.size w w':=by
 have e1:IntKind.u64.wrap (8*(b:Int))=8*(b:Int):=bY _ ae;have e2:IntKind.u64.wrap (2112+8*(b:Int))=8*((eJ 256 b:Nat):Int):=by rw[bY _ ae];unfold eJ;omega
 obtain⟨z,hz⟩:∃z:Int,8*((eJ 256 b:Nat):Int)=z:=⟨_,rfl⟩;rw[hz]at e2 |-;clear hz;unfold uo;go_enter func60,ntmps60
 go_wp2;go_ret;exact⟨rfl,by exact aC⟩
theorem dI(w:World)(n j:Nat)(NN:Nat)(h1:1<=n)(hn:n<1000000)(hj:j<4):
 Calls prog 61 #[uo NN, .int .u64 (n:Int), .int .i64 (j:Int)] w λe w'=>e= .returned (.int .u64 (8*((aQ 256 8 n j:Nat):Int)))/\Below w.heap.size w w':=by
 have HR:=ag (λ(W:World)=>C4 W NN 8 ae);have e0:IntKind.u64.wrap ((n:Int)-1)=(n:Int)-1:=bY _ ae;have e1:IntKind.u64.wrap (((n:Int)-1)*4)=((n:Int)-1)*4:=bY _ ae;have e2:IntKind.u64.wrap (j:Int)=(j:Int):=bY _ ae;have e3:IntKind.u64.wrap (((n:Int)-1)*4+(j:Int))=((n:Int)-1)*4+(j:Int):=bY _ ae;have e4:IntKind.u64.wrap (8*(((n:Int)-1)*4+(j:Int)))=8*(((n:Int)-1)*4+(j:Int)):=bY _ ae;obtain⟨z,hz⟩:∃z:Int,8*((aQ 256 8 n j:Nat):Int)=z:=⟨_,rfl⟩;have hr8:8*((eJ 256 8:Nat):Int)=2176:=rfl;have e5:IntKind.u64.wrap (2176+8*(((n:Int)-1)*4+(j:Int)))=z:=by rw[<-hz,bY _ ae];unfold aQ;omega
 rw[hz];rw[show(((8:Nat):Int))=8 from rfl,hr8]at HR;clear hz hr8;unfold uo at HR |-;go_enter func61,ntmps61
 go_wp2_with (go_at_call 60;(with_reducible refine(HR.out _).mono ?_);rintro e w1 ⟨rfl,hb⟩;obtain⟨x,rfl⟩:=aE hb;clear hb)
 go_ret;exact⟨rfl,by exact aC⟩
theorem rW:prog.underlying 147=some (.map 22 4):=underlying147
theorem FK:Maps.Keyed prog 22:=Ky m_
theorem pW{H:Type}{v:Value}{z:DataW H×List MemPlace}(h:plainElem prog 4 v=some z):∃b,v= .bool b/\z=(.lit (.bool b),[]):=by
 unfold plainElem at h;rw[underlying4]at h;cases v<;>simp at h
 exact⟨_,rfl,h.symm⟩
theorem Ti(w:World):(zeroValue 4).run prog w= .ok (.bool false) w:=by kernel_rfl
def rL(w:World)(b:Nat)(S:Int->Bool)(n:Nat):Prop:=
 ∃D:DataW Unit,w.ownsMap prog 22 (plainElem prog 4) b n D/\∀x,(Lit.int .u64 x).wf=true->D.atKey (.int .u64 x) (.lit (.bool false))= .lit (.bool (S x))
theorem rL.keep{w w':World}{b n:Nat}{S:Int->Bool}(h:rL w b S n)(hb:w'.heap[b]?=w.heap[b]?):rL w' b S n:=by
 obtain⟨D,⟨es,clock,h1,r⟩,h2⟩:=h;exact⟨D,⟨es,clock,hb.trans h1,r⟩,h2⟩
theorem rL.lt{w:World}{b n:Nat}{S:Int->Bool}(h:rL w b S n):b<w.heap.size:=by
 obtain⟨D,h1,_⟩:=h;exact h1.lt
theorem rL.made(w:World):rL (w.alloc (.map #[] 0)) w.heap.size (λ_=>false) 0:=by
 refine⟨.map [],World.ownsMap_made w prog 22 _,λx hx=> ?_⟩;rfl
theorem rL.look{w:World}{b n:Nat}{S:Int->Bool}(h:rL w b S n)(k:Int)(hk:(Lit.int .u64 k).wf=true):(Instr.lookup 147 (.map (some b)) (.int .u64 k) false).run prog w= .ok (.bool (S k)) w:=by
 obtain⟨D,hD,hS⟩:=h;obtain⟨v,ps,gL,hv⟩:=hD.lookup FK rW (Ti w) (plainElem_bool underlying4 false) (PH m_ hk);obtain⟨c,rfl,hc⟩:=pW hv;rw[hS k hk]at hc;injection hc with hc _;injection hc with hc;injection hc with hc;rw[gL,hc]
theorem CY{w:World}{ops:Array Oper}{rest:List Oper}{o:Oper}{a:Act}{Q:Exit->Act->World->Prop}
 (hg:o.guard=none) (m x v:Operand) (hop:o.op=Op.mapUpdate 147 m x v) (b n:Nat) (S:Int->Bool)
 (hm:a.eval m= .map (some b)) (cL:rL w b S n) (hn:n<maxLen) (k:Int) (hx:a.eval x= .int .u64 k) (hv:a.eval v= .bool true) (hk:(Lit.int .u64 k).wf=true)
 (hK:∀w',rL w' b (λx=>if k=x then true else S x) (n+1)->Ch (λy=>y=b) w w'->wpList prog ops Q rest (a.put o.dst undef) w'):
 wpList prog ops Q (o::rest) a w:=by
 obtain⟨D,hD,hS⟩:=cL;refine wpList_mapUpdate_own w hg m x v 147 hop 22 4 FK rW _ b n D hm hD hn _ _ (.int .u64 k) hx hv (PH m_ hk) _ [] (plainElem_bool underlying4 true) ?_;intro w' h1 h2;refine hK w' ⟨_,h1,λx hxw=> ?_⟩ ⟨h2.os,h2.tape,h2.output,h2.size,λy hy hb=>h2.block y hy (λh=>hb (by injection h))⟩;have kG:WideAt.IsKeyLit (Lit.int .u64 k):=by simp[WideAt.IsKeyLit]
 have hM:Maps.IsMap D:=hD.isMap;by_cases hxk:k=x
 . subst hxk
   show _=DataW.lit (Lit.bool (if k=k then true else S k))
   rw[Maps.atKey_put_same hM kG,aA rfl]
 . have aG:(Lit.int .u64 x)≠Lit.int .u64 k:=λh=>hxk (by injection h with _ h;exact h.symm)
   show _=DataW.lit (Lit.bool (if k=x then true else S x))
   rw[Maps.atKey_put_other aG,ax hxk];exact hS x hxw
structure VH(ws:List Int)(L:Nat->Int)(NN:Nat):Prop where
 len:ws.length=16+4*NN
 get:∀k,256<=k->k<272+4*NN->ws[k-256]?=some (L k)
 rng:∀k,256<=k->k<272+4*NN->0<=L k/\L k<4611686018427387904
 nn:NN<1000
structure AJ where
 seen:List Bool
 ks:Int->Bool
 nk:Nat
 es:List (Int×Int)
 free:Nat
structure Ob where
 b:Nat
 s:Nat
 m:Nat
 W:Option Addr
 cw:Nat
def lW(NN:Nat)(B:Ob)(n:Nat)(A:Option Addr)(c:Nat)(F:AJ):Array Value:=
 #[.slice A F.es.length c, .int .i64 F.free, .bool true, .int .u64 2048, .int .u64 8, .int .u64 NN, .slice B.W n B.cw, .slice (some ⟨B.s,0,none⟩) (NN+1) (NN+1), .map (some B.m)]
structure lK(NN n0:Nat)(ws:List Int)(B:Ob)(w:World)(A:Option Addr)(c:Nat)(F:AJ):Prop where
 cb:CB w B.b 149 (lW NN B ws.length A c F)
 sn:CB w B.s 4 (F.seen.map Value.bool).toArray
 ls:F.seen.length=NN+1
 mp:rL w B.m F.ks F.nk
 sl:Sl 95 2 w A F.es.length c (az F.es)
 rd:Rd .u64 w B.W ws
 d1:B.b≠B.s/\B.b≠B.m/\B.s≠B.m
 oA:∀x,ah A x->n0<=x/\x≠B.b/\x≠B.s/\x≠B.m
 oW:∀x,ah B.W x->n0<=x/\x≠B.b/\x≠B.s/\x≠B.m/\¬ah A x
 ge:n0<=B.b/\n0<=B.s/\n0<=B.m
 n0:n0<=w.heap.size
structure RdC(w:World)(NN:Nat)(B:Ob)(n:Nat)(A:Option Addr)(c:Nat)(F:AJ):Prop where
 c0:w.cell? ⟨B.b,0,none⟩=some (.slice A F.es.length c)
 c1:w.cell? ⟨B.b,1,none⟩=some (.int .i64 F.free)
 c2:w.cell? ⟨B.b,2,none⟩=some (.bool true)
 c3:w.cell? ⟨B.b,3,none⟩=some (.int .u64 2048)
 c4:w.cell? ⟨B.b,4,none⟩=some (.int .u64 8)
 c5:w.cell? ⟨B.b,5,none⟩=some (.int .u64 NN)
 c6:w.cell? ⟨B.b,6,none⟩=some (.slice B.W n B.cw)
 c7:w.cell? ⟨B.b,7,none⟩=some (.slice (some ⟨B.s,0,none⟩) (NN+1) (NN+1))
 c8:w.cell? ⟨B.b,8,none⟩=some (.map (some B.m))
 lt:B.b<w.heap.size
 fr:∀i,w.frozen? ⟨B.b,i,none⟩=false
section
variable{NN n0 c n:Nat}{ws:List Int}{B:Ob}{w w':World}{A:Option Addr}{F:AJ}{L:Nat->Int}
theorem lK.rc(h:lK NN n0 ws B w A c F):RdC w NN B ws.length A c F:=⟨h.cb.cell 0,h.cb.cell 1,h.cb.cell 2,h.cb.cell 3,h.cb.cell 4,h.cb.cell 5,h.cb.cell 6,h.cb.cell 7,h.cb.cell 8,h.cb.lt,λi=>h.cb.frozen i⟩
theorem lK.bl(h:lK NN n0 ws B w A c F)(hB:Below w.heap.size w w'):lK NN n0 ws B w' A c F:=
 ⟨h.cb.below hB,h.sn.below hB,h.ls,h.mp.keep (hB.block _ h.mp.lt),h.sl.keep (λb hb=>hB.block b (h.sl.lt hb)),h.rd.below hB,h.d1,h.oA,h.oW,h.ge,f_ h.n0 hB.size⟩
theorem Rd.get{k:IntKind}(h:Rd k w A ws){j:Nat}{v:Int}(hv:ws[j]?=some v):∃g off,A=some ⟨g,off,none⟩/\g<w.heap.size/\w.cell? ⟨g,off+j,none⟩=some (.int k v):=by
 obtain⟨hl,he⟩:=ki.1 hv;obtain⟨b,off,h1,h2,h3⟩:=h.at_ hl;exact⟨b,off,h1,h2,by rw[he]at h3;exact h3⟩
theorem C3(h:lK NN n0 ws B w A c F)(hw:VH ws L NN)(k:Nat)(hk:256<=k)(fC:k<272+4*NN):
 Calls prog 97 #[.pointer (some ⟨B.b,0,none⟩), .int .u64 (8*(k:Int))] w λe w'=>e= .returned (.int .u64 (bu L k))/\∃n,w'=w.drewN n:=by
 obtain⟨g,off,hA,hg,hc⟩:=h.rd.get (hw.get k hk fC);obtain⟨c0,c1,c2,c3,c4,c5,c6,c7,c8,cl,cf⟩:=h.rc;have hlen:=hw.len;have DI:=hw.nn;rw[hlen,hA]at c6;have e1:IntKind.u64.wrap (8*(k:Int)-2048)=8*(k:Int)-2048:=bY _ ae;have e2:(8*(k:Int)-2048).tdiv 8=((k-256:Nat):Int):=by rw[IC ae];omega
 have e3:(L k).tmod 1099511627776=bu L k:=ID (hw.rng k hk fC).1;obtain⟨j,hj⟩:=aH (k-256);rw[hj]at e2 hc;have hj1:(j:Int)<((16+4*NN:Nat):Int):=by omega
 have MU:(0:Int)<=(j:Int):=by omega
 generalize 8*(k:Int)=Zee at*;clear c0 c1 c2 c4 c5 c7 c8 cf h hw hlen;go_enter func97,ntmps97
 go_wp2;go_quiet (fail)
 go_wp2;exact bH (v:= .int .u64 (bu L k)) (by simp[results,results97,go_sem]) rfl ⟨rfl,_,rfl⟩
theorem lK.visited(h:lK NN n0 ws B w A c F)(n:Nat):lK NN n0 ws B (w.setCell ⟨B.s,n,none⟩ (.bool true)) A c {F with seen:=F.seen.set n true}/\Ch (At B.s) w (w.setCell ⟨B.s,n,none⟩ (.bool true)):=by
 have hC:Ch (At B.s) w (w.setCell ⟨B.s,n,none⟩ (.bool true)):=(Ch.refl _ _).bj _ _;have keep:∀{b:Nat},b<w.heap.size->b≠B.s->(w.setCell ⟨B.s,n,none⟩ (.bool true)).heap[b]?=w.heap[b]?:=λhb aG=>hC.block _ hb aG
 refine⟨⟨h.cb.keep (keep h.cb.lt h.d1.1),?_,by rw[lO];exact h.ls,h.mp.keep (keep h.mp.lt (cC h.d1.2.2)),h.sl.keep (λb hb=>keep (h.sl.lt hb) (h.oA b hb).2.2.1),?_,h.d1,h.oA,h.oW,h.ge,by simpa using h.n0⟩,hC⟩
 . have:=h.sn.set n (.bool true)
   have e:(F.seen.map Value.bool).toArray.setIfInBounds n (.bool true)=((F.seen.set n true).map Value.bool).toArray:=by
    rw[cV,yR]
   rw[e]at this;exact this
 . rcases h.rd with hx|⟨b,off,h1,h2,h3⟩
   . exact .inl hx
   . have xM:=h.oW b (by rw[h1];rfl)
     exact .inr ⟨b,off,h1,by simpa using h2,λi hi=>by
      have:(w.setCell ⟨B.s,n,none⟩ (.bool true)).cell? ⟨b,off+i,none⟩=w.cell? ⟨b,off+i,none⟩:=Co (keep h2 xM.2.2.1);rw[this];exact h3 i hi⟩
theorem Kf(h:lK NN n0 ws B w A c F)(DI:NN<1000)(n:Nat)(hn:n<=NN)(hs:F.seen[n]?=some false):
 Calls prog 98 #[.pointer (some ⟨B.b,0,none⟩), .int .u64 (n:Int)] w λe w'=>e= .returned (.bool true)/\lK NN n0 ws B w' A c {F with seen:=F.seen.set n true}/\Ch (At B.s) w w':=by
 obtain⟨c0,c1,c2,c3,c4,c5,c6,c7,c8,cl,cf⟩:=h.rc
 have K7:w.cell? ⟨B.s,n,none⟩=some (.bool false):=by
  rw[h.sn.cell n,PS,AX,hs];rfl
 have oK:=h.sn.lt;have hsf:=h.sn.frozen n;have qm:¬(NN:Int)<(n:Int):=by omega
 have dS:(n:Int)<((NN:Int)+1):=by omega
 have F2:(0:Int)<=(n:Int):=by omega
 have HV:=ag (h.visited n);clear c0 c1 c2 c3 c4 c6 c8 cf h hs;go_enter func98,ntmps98
 go_wp2;refine bH (v:= .bool true) (by simp[results,results98,go_sem]) rfl ?_;exact⟨rfl,HV.out⟩
end
def dR(s:List Bool)(l:List Nat):List Bool:=l.foldl (λs n=>s.set n true) s
theorem v_(s:List Bool)(l:List Nat)(n:Nat):dR s (l++[n])=(dR s l).set n true:=by simp[dR]
theorem Iv(s:List Bool)(l m:List Nat):dR s (l++m)=dR (dR s l) m:=by simp[dR]
theorem nW(s:List Bool):∀(l:List Nat) (n:Nat),n∉l->(dR s l)[n]?=s[n]?:=by
 intro l;induction l generalizing s with
 |nil=>intro n _;rfl
 |cons m l ih=>
  intro n hn;simp only[dr,not_or]at hn;show(dR (s.set m true) l)[n]?=_
  rw[ih _ n hn.2,rE (cC hn.1)]
section
variable{NN n0 c n:Nat}{ws:List Int}{B:Ob}{w w':World}{A:Option Addr}{F:AJ}{L:Nat->Int}
theorem lK.own(h:lK NN n0 ws B w A c F){i:Nat}{v:Value}{F':AJ}(hc:(lW NN B ws.length A c F).setIfInBounds i v=lW NN B ws.length A c F')(h1:F'.seen=F.seen)(h2:F'.ks=F.ks)(h3:F'.nk=F.nk)(h4:F'.es=F.es):
 lK NN n0 ws B (w.setCell ⟨B.b,i,none⟩ v) A c F'/\Ch (At B.b) w (w.setCell ⟨B.b,i,none⟩ v):=by
 have hC:Ch (At B.b) w (w.setCell ⟨B.b,i,none⟩ v):=(Ch.refl _ _).bj _ _;have keep:∀{b:Nat},b<w.heap.size->b≠B.b->(w.setCell ⟨B.b,i,none⟩ v).heap[b]?=w.heap[b]?:=λhb aG=>hC.block _ hb aG
 refine⟨⟨?_,by rw[h1];exact h.sn.keep (keep h.sn.lt (cC h.d1.1)),by rw[h1];exact h.ls,by rw[h2,h3];exact h.mp.keep (keep h.mp.lt (cC h.d1.2.1)),by rw[h4];exact h.sl.keep (λb hb=>keep (h.sl.lt hb) (h.oA b hb).2.1),?_,h.d1,h.oA,h.oW,h.ge,by simpa using h.n0⟩,hC⟩
 . rw[<-hc];exact h.cb.set i v
 . rcases h.rd with hx|⟨b,off,h1,h2,h3⟩
   . exact .inl hx
   . have xM:=h.oW b (by rw[h1];rfl)
     exact .inr ⟨b,off,h1,by simpa using h2,λi' hi=>by
      have:(w.setCell ⟨B.b,i,none⟩ v).cell? ⟨b,off+i',none⟩=w.cell? ⟨b,off+i',none⟩:=Co (keep h2 xM.2.1);rw[this];exact h3 i' hi⟩
theorem lK.freed(h:lK NN n0 ws B w A c F){f:Nat}(hf:F.free+1=f):lK NN n0 ws B (w.setCell ⟨B.b,1,none⟩ (.int .i64 (f:Int))) A c {F with free:=f}/\Ch (At B.b) w (w.setCell ⟨B.b,1,none⟩ (.int .i64 (f:Int))):=
 h.own rfl rfl rfl rfl rfl
theorem lK.valid(h:lK NN n0 ws B w A c F):lK NN n0 ws B (w.setCell ⟨B.b,2,none⟩ (.bool true)) A c F/\Ch (At B.b) w (w.setCell ⟨B.b,2,none⟩ (.bool true)):=
 h.own rfl rfl rfl rfl rfl
def CnP(NN n0:Nat)(ws:List Int)(B:Ob)(w:World)(A:Option Addr)(c:Nat)(F:AJ)(w':World):Prop:=lK NN n0 ws B w' A c F/\Ch (λx=>x=B.b\/x=B.s) w w'
theorem Tt{fl:List Nat}(h:lK NN n0 ws B w A c F)(hw:VH ws L NN)(Bn:J_ L (aQ 256 8) NN fl (bu L 258))(oy:fl.Nodup)(hsn:∀n∈fl,F.seen[n]?=some false)(hf0:F.free+fl.length<100000):
 Calls prog 69 #[.pointer (some ⟨B.b,0,none⟩)] w λe w'=>e= .returned (.tuple #[])/\CnP NN n0 ws B w A c {F with seen:=dR F.seen fl,free:=F.free+fl.length} w':=by
 have DI:=hw.nn;have HNN:=ag DI;have HV:=ag (λ(W:World) (F':AJ) (hR:lK NN n0 ws B W A c F') (k:Nat) (h1:256<=k) (h2:k<272+4*NN)=>C3 hR hw k h1 h2);have HVI:=ag (λ(W:World) (F':AJ) (hR:lK NN n0 ws B W A c F') (n:Nat) (hn:n<=NN) (hs:F'.seen[n]?=some false)=>Kf hR DI n hn hs);have jQ:=ag (λ(W:World) (x j:Nat) (h1:1<=x) (h2:x<=NN) (hj:j<4)=>dI W x j NN h1 ae hj);have HR:=ag h;have XF:=ag Bn;have ZdX:=ag oy;have HSN:=ag hsn;have HF0:=ag hf0;have Oe:Hid (Calls prog 97 #[.pointer (some ⟨B.b,0,none⟩), .int .u64 2064] w λe w'=>e= .returned (.int .u64 (bu L 258))/\∃n,w'=w.drewN n):=C3 h hw 258 ae ae;obtain⟨c0,c1,c2,c3,c4,c5,c6,c7,c8,cl,cf⟩:=h.rc;clear c0 c1 c2 c4 c5 c6 c7 c8 cf h hw Bn oy hsn hf0 DI;unfold uo at jQ;obtain⟨v0,G4⟩:=aH (bu L 258);rw[G4]at XF Oe;clear G4;go_enter func69,ntmps69
 go_wp2_with (go_at_call 97;(with_reducible refine Oe.out.mono ?_);rintro e w1 ⟨rfl,nq,rfl⟩)
 go_loopw [2,11,12,13,14,15,16,17,18,19,20,21,22,23,24,25,26,27,28,29,30,31,32,33,34,35,36,37,38,39,40,41,42,43,44,45,46,47,48,49,50,51,52,53,54] (λx _ _ _ _ _ _ _ _ _ _ _ _ _ _ _ _ _ _ _ _ _ _ _ _ _ _ _ _ _ _ _ _ _ _ _ _ _ _ _ _ _ _ _ _ wr=>∃(dn rs:List Nat) (v:Int),x= .int .u64 v/\fl=dn++rs/\J_ L (aQ 256 8) NN rs v/\CnP NN n0 ws B w A c {F with seen:=dR F.seen dn,free:=F.free+dn.length} wr) (λ_ _ _ _ _ _ _ _ _ _ _ _ _ _ _ _ _ _ _ _ _ _ _ _ _ _ _ _ _ _ _ _ _ _ _ _ _ _ _ _ _ _ _ _ _ wr=>F.free+fl.length-(intOf ((wr.cell? ⟨B.b,1,none⟩).getD (.int .i64 0))).toNat)
 case atStart=>exact⟨[],fl,v0,rfl,rfl,XF.out,HR.out.bl aC,Ch.au aC⟩
 case round=>
  obtain⟨dn,rs,v,rfl,hfe,hfm,hC⟩:=hrel;obtain⟨hRr,py⟩:=hC;have Hn:=ag hRr;have Ec:=ag py;have HFE:=ag hfe;clear py;cases rs with
  |nil=>
   obtain rfl:v=0:=hfm;clear hRr hfe;go_wp2;go_end0
   have e:=HFE.out;rw[vh]at e;rw[e];exact⟨rfl,Hn.out,Ec.out⟩
  |cons x rs=>
   obtain⟨rfl,h1,h2,h3,h4⟩:=hfm;have H1:=ag h1;have H2:=ag h2;have H3:=ag h3;have H4:=ag h4
   have hxd:x∉dn:=λhx=>by
    have hn:=ZdX.out;rw[hfe,tW]at hn;exact hn.2.2 x hx x smQ rfl
   have hsx:(dR F.seen dn)[x]?=some false:=by rw[nW _ _ _ hxd];exact HSN.out x (by rw[hfe];simp)
   have hlen:fl.length=dn.length+rs.length+1:=by rw[hfe];simp;omega
   have Zay:=ag hlen;obtain⟨f,hf⟩:=aH (F.free+dn.length);have HFF:=ag hf;have hfb:f+1<200000:=by have:=HF0.out;omega
   rw[hf]at hRr;have HVX:=ag (HVI.out wr _ hRr x h2 hsx);have ux:((x:Int) !=0)=true:=by simp;omega
   obtain⟨f1,Em⟩:=aH (f+1);have e1:IntKind.i64.wrap ((f:Int)+1)=(f1:Int):=by rw[b9 _ ae];omega
   have HF1:=ag Em;clear h3 h4 hxd hsx hRr hfe hlen h1 h2 hf Em hfb;go_upto_region 2 with(go_at_call 98;(with_reducible refine HVX.out.mono ?_);rintro e w1 ⟨rfl,M9,iA⟩;have S_:=ag M9;have tN:=ag iA;clear M9 iA)
   obtain⟨_,k1,_,_,_,_,_,_,_,kl,kf⟩:=S_.out.rc;have g1:=kf 1;clear kf;go_upto_region 3 with(fail)
   clear k1 g1 kl;obtain⟨r2,s2⟩:=S_.out.freed HF1.out;obtain⟨W2,eM⟩:=aH (w1.setCell ⟨B.b,1,none⟩ (.int .i64 (f1:Int)));rw[eM]at r2 s2 |-;clear eM;have R2:=ag r2;have S2:=ag s2;obtain⟨_,_,k2,k3,k4,k5,_,_,_,kl,kf⟩:=r2.rc;have g2:=kf 2;clear kf r2 s2;have jP:=ag (λW=>jQ.out W x 3 H1.out H2.out ae);rw[show((3:Nat):Int)=3 from rfl]at jP
   have NG:Hid (∀W,Below W2.heap.size W2 W->Calls prog 97 #[.pointer (some ⟨B.b,0,none⟩), .int .u64 (8*((aQ 256 8 x 3:Nat):Int))] W λe w'=>e= .returned (.int .u64 0)/\∃n,w'=W.drewN n):=λW hW=>by
    have h1:=H1.out;have h2:=H2.out;have:=HV.out W _ (R2.out.bl hW) (aQ 256 8 x 3) (by unfold aQ;omega) (by unfold aQ;omega);rw[H3.out]at this;exact this
   go_upto_region 4 with(first
    |(go_at_call 61;(with_reducible refine(jP.out _).mono ?_);rintro e w3 ⟨rfl,hb⟩;obtain⟨y,rfl⟩:=aE hb;clear hb)
    |(go_at_call 97;(with_reducible refine(NG.out _ aC).mono ?_);rintro e w3 ⟨rfl,Ba,rfl⟩))
   have r3:=(R2.out.bl (show Below W2.heap.size W2 (y.w.drewN Ba) by exact aC)).valid;have Hu:Hid (Below W2.heap.size W2 (y.w.drewN Ba)):=by show Below _ _ _;exact aC
   obtain⟨W3,Ep⟩:=aH ((y.w.drewN Ba).setCell ⟨B.b,2,none⟩ (.bool true));rw[Ep]at r3 |-;clear Ep k2 k3 k4 k5 kl g2;have R3:=ag r3.1;have S3:=ag r3.2;obtain⟨_,_,k2,k3,k4,k5,_,_,_,kl,kf⟩:=r3.1.rc;clear kf r3 k2;have HNZ:=ag (λW=>jQ.out W x 2 H1.out H2.out ae);rw[show((2:Nat):Int)=2 from rfl]at HNZ;obtain⟨v2,UA⟩:=aH (bu L (aQ 256 8 x 2));have HV2:=ag UA
   have Zap:Hid (∀W,Below W3.heap.size W3 W->Calls prog 97 #[.pointer (some ⟨B.b,0,none⟩), .int .u64 (8*((aQ 256 8 x 2:Nat):Int))] W λe w'=>e= .returned (.int .u64 v2)/\∃n,w'=W.drewN n):=λW hW=>by
    have h1:=H1.out;have h2:=H2.out;have:=HV.out W _ (R3.out.bl hW) (aQ 256 8 x 2) (by unfold aQ;omega) (by unfold aQ;omega);rw[HV2.out]at this;exact this
   clear UA
   go_wp2_with (first
    |(go_at_call 61;(with_reducible refine(HNZ.out _).mono ?_);rintro e w4 ⟨rfl,hb⟩;obtain⟨z,rfl⟩:=aE hb;clear hb)
    |(go_at_call 97;(with_reducible refine(Zap.out _ aC).mono ?_);rintro e w4 ⟨rfl,nq4,rfl⟩))
   have hRz:=(R3.out.bl (show Below W3.heap.size W3 (z.w.drewN nq4) by exact aC));have hf:=HFF.out;have Em:=HF1.out;have mA:Hid (Below W3.heap.size W3 (z.w.drewN nq4)):=by show Below _ _ _;exact aC
   have tj:dR F.seen (dn++[x])=(dR F.seen dn).set x true:=v_ _ _ _;have jB:F.free+(dn++[x]).length=f1:=by simp;omega
   refine⟨⟨dn++[x],rs,v2,rfl,by rw[HFE.out];simp,by rw[<-HV2.out];exact H4.out,?_,?_⟩,?_⟩
   . rw[tj,jB];exact hRz
   . have hS:∀{a b:World},Below a.heap.size a b->Ch (λx=>x=B.b\/x=B.s) a b:=λh=>Ch.au h
     have t1:Ch (λx=>x=B.b\/x=B.s) wr w1:=tN.out.mono (λb hb _=> .inr hb);have t2:Ch (λx=>x=B.b\/x=B.s) w1 W2:=S2.out.mono (λb hb _=> .inl hb);have t3:Ch (λx=>x=B.b\/x=B.s) (y.w.drewN Ba) W3:=S3.out.mono (λb hb _=> .inl hb);exact((((Ec.out.trans t1 (λb hb _=>hb)).trans t2 (λb hb _=>hb)).trans (hS Hu.out) (λb hb _=>hb)).trans t3 (λb hb _=>hb)).trans (hS mA.out) (λb hb _=>hb)
   . rw[hRz.rc.c1,Hn.out.rc.c1]
     have:=Zay.out;simp only[Option.getD_some,intOf];omega
end
theorem Hw(x s c:Nat)(hx:x<18446744073709551616)(hc:c=2^s):bits .xor .u64 (x:Int) ((x:Int)/(c:Int))=((Ee x s:Nat):Int):=by
 have e1:(x:Int)/(c:Int)=((x/c:Nat):Int):=by push_cast;rfl
 rw[e1,bits_xor_u64_nat _ _ hx (KM (Pt _ _) hx),hc];unfold Ee;rw[P2]
theorem Ql(x c:Nat):IntKind.u64.wrap ((x:Int)*(c:Int))=((nC x c:Nat):Int):=by
 have e:IntKind.u64.wrap ((x:Int)*(c:Int))=((x:Int)*(c:Int))%18446744073709551616:=by
  unfold IntKind.wrap;exact ax (λh=>by cases h)
 rw[e];unfold nC;rw[Int.natCast_emod,Int.natCast_mul];rfl
theorem iK(x c:Nat):nC x c<18446744073709551616:=yP _ ae
theorem sy{x s:Nat}(h:x<18446744073709551616):Ee x s<18446744073709551616:=by
 have h2:x>>>s<2^64:=by rw[P2];exact KM (Pt _ _) h
 exact Dg (n:=64) h h2
theorem qW(k:Int):cr k<18446744073709551616:=sy (iK _ _)
theorem ZaK(w:World)(k:Int)(hk:0<=k/\k<18446744073709551616):Calls prog 94 #[.int .u64 k] w λe w'=>e= .returned (.int .u64 ((cr k:Nat):Int))/\w=w':=by
 obtain⟨x,rfl⟩:=vr hk.1;have hx:x<18446744073709551616:=by omega
 have e1:bits .xor .u64 (x:Int) ((x:Int)/1073741824)=((Ee x 30:Nat):Int):=Hw x 30 1073741824 hx rfl;obtain⟨a,ha⟩:=aH (Ee x 30);have la:a<18446744073709551616:=by rw[<-ha];exact sy hx
 have e2:IntKind.u64.wrap ((a:Int)*13787848793156543929)=((nC a 13787848793156543929:Nat):Int):=Ql a 13787848793156543929;obtain⟨b,hb⟩:=aH (nC a 13787848793156543929);have lb:b<18446744073709551616:=by rw[<-hb];exact iK _ _
 have e3:bits .xor .u64 (b:Int) ((b:Int)/134217728)=((Ee b 27:Nat):Int):=Hw b 27 134217728 lb rfl;obtain⟨c,hc⟩:=aH (Ee b 27);have lc:c<18446744073709551616:=by rw[<-hc];exact sy lb
 have e4:IntKind.u64.wrap ((c:Int)*10723151780598845931)=((nC c 10723151780598845931:Nat):Int):=Ql c 10723151780598845931;obtain⟨d,hd⟩:=aH (nC c 10723151780598845931);have ld:d<18446744073709551616:=by rw[<-hd];exact iK _ _
 have e5:bits .xor .u64 (d:Int) ((d:Int)/2147483648)=((Ee d 31:Nat):Int):=Hw d 31 2147483648 ld rfl;have hm:cr (x:Int)=Ee d 31:=by unfold cr;rw[Int.toNat_natCast,ha,hb,hc,hd]
 rw[hm];rw[ha]at e1;rw[hb]at e2;rw[hc]at e3;rw[hd]at e4;clear ha hb hc hd hm hk;generalize ((Ee d 31:Nat):Int)=z at*;go_enter func94,ntmps94
 go_wp2;go_ret;exact⟨rfl,rfl⟩
theorem OT(w:World)(k:Int)(hk:0<=k/\k<18446744073709551616):Calls prog 66 #[.int .u64 k] w λe w'=>e= .returned (.int .u64 ((cr k:Nat):Int))/\w=w':=by
 have HM:=ag (ZaK w k hk);generalize ((cr k:Nat):Int)=z at*;go_enter func66,ntmps66
 go_wp2_with (go_at_call 94;(with_reducible refine HM.out.mono ?_);rintro e w1 ⟨rfl,rfl⟩)
 go_ret;exact⟨rfl,rfl⟩
theorem ET(w:World)(NN h:Nat):Calls prog 67 #[uo NN, .int .u64 (h:Int)] w λe w'=>e= .returned (.int .u64 ((((h>>>32)%8:Nat)):Int))/\Below w.heap.size w w':=by
 have e1:((h:Int)/4294967296).tmod 8=(((h>>>32)%8:Nat):Int):=by
  rw[ID ae,P2];omega
 obtain⟨z,hz⟩:∃z:Int,(((h>>>32)%8:Nat):Int)=z:=⟨_,rfl⟩;rw[hz]at e1 |-;clear hz;unfold uo;go_enter func67,ntmps67
 go_wp2;go_ret;exact⟨rfl,by exact aC⟩
def N_(k:Int):Nat:=(cr k>>>32)%8
structure Al(NN b:Nat)(L:Nat->Int)(T:TT)(d pa:Nat):Prop where
 m:gU L (aQ 256 8) NN T T.root
 w:∃P:Int->Prop,T.Wf cr d P/\∀x,P x->KR x/\N_ x=b
 p:∀e∈T.aP,∀j,j<d->(cr e.1).testBit j=pa.testBit j
 a:d=0\/∃k,KR k/\(∀e∈T.aP,KR e.1->e.1≠k)/\∀j,j+1<d->(cr k).testBit j=pa.testBit j
 l:pa<2^d/\pa<2^64
theorem Al.start{NN b:Nat}{L:Nat->Int}{T:TT}{x:Int}(h:gU L (aQ 256 8) NN T x)(hw:T.Wf cr 0 (λk=>KR k/\N_ k=b)):Al NN b L T 0 0:=
 ⟨by rw[<-h.root];exact h,⟨_,hw,λx hx=>hx⟩,λe _ j hj=>by omega, .inl rfl,by decide⟩
theorem Ul{h pa d:Nat}(hb:∀j,j<d->h.testBit j=pa.testBit j):(h^^^pa)&&&(2^d-1)=0:=by
 refine Di λj=> ?_
 rw[Pu,Fi,Ww,Nat.zero_testBit];by_cases hj:j<d
 . rw[hb j hj];simp
 . simp[hj]
section
variable{NN b n d pa:Nat}{L:Nat->Int}{k v:Int}{z o:TT}
theorem Al.deep(h:Al NN b L (.node n k v z o) d pa)(lT:∀x y,KR x->KR y->cr x=cr y->x=y):d<=64:=by
 rcases Nat.lt_or_ge 64 d with hd|hd
 . exfalso
   obtain⟨P,⟨w1,w2,w3,w4⟩,hP⟩:=h.w;rcases h.a with ha|⟨k',a1,a2,a3⟩
   . omega
   . have nQ:(k,v)∈(TT.node n k v z o).aP:=by simp[TT.aP]
     have Jh:=(hP k w1).1;refine a2 _ nQ Jh (lT k k' Jh a1 (Di λj=> ?_));by_cases hj:j<64
     . rw[h.p _ nQ j ae,a3 j ae]
     . have h1:=qW k
       have h2:=qW k';have h3:(2:Nat)^64<=2^j:=yN ae ae;rw[vq (show cr k<2^j by omega),vq (show cr k'<2^j by omega)]
 . exact hd
theorem Al.node(h:Al NN b L (.node n k v z o) d pa)(lT:∀x y,KR x->KR y->cr x=cr y->x=y):
 d<=64/\(1<=n/\n<=NN)/\bu L (aQ 256 8 n 0)=k/\bu L (aQ 256 8 n 1)=v/\bu L (aQ 256 8 n 2)=z.root/\bu L (aQ 256 8 n 3)=o.root/\KR k/\N_ k=b/\(cr k^^^pa)&&&(2^d-1)=0/\
 Al NN b L z (d+1) pa/\Al NN b L o (d+1) (pa|||(2^d%2^64)):=by
 have hd:=h.deep lT;obtain⟨_,m1,m2,m3,m4,m5,m6⟩:=h.m;obtain⟨P,⟨w1,w2,w3,w4⟩,hP⟩:=h.w;obtain⟨l1,l2⟩:=h.l;have Jh:=hP k w1;have nQ:(k,v)∈(TT.node n k v z o).aP:=by simp[TT.aP]
 have hza:∀e∈z.aP,e∈(TT.node n k v z o).aP:=λe he=>by simp[TT.aP,he]
 have hoa:∀e∈o.aP,e∈(TT.node n k v z o).aP:=λe he=>by simp[TT.aP,he]
 have U8:pa.testBit d=false:=vq l1;have hp2:(2:Nat)^d%2^64<=2^d:=Nat.mod_le _ _;have qo:pa|||(2^d%2^64)<2^(d+1):=Nat.or_lt_two_pow (by rw[Nat.pow_succ];omega) (by rw[Nat.pow_succ];have:=KA d;omega)
 have xM:∀j,j<d->(pa|||(2^d%2^64)).testBit j=pa.testBit j:=λj hj=>by
  rw[Nat.testBit_or,PX,Nat.testBit_two_pow_of_ne ae];simp
 refine⟨hd,⟨m1,m2⟩,m3,m4,m5.root,m6.root,Jh.1,Jh.2,Ul (λj hj=>h.p _ nQ j hj),⟨by rw[<-m5.root];exact m5,⟨_,w3,λx hx=>hP x hx.1⟩,λe he j hj=> ?_, .inr ⟨k,Jh.1,λe he _=>w2 e (iu _ he),λj hj=>h.p _ nQ j ae⟩,by rw[Nat.pow_succ];omega,l2⟩,⟨by rw[<-m6.root];exact m6,⟨_,w4,λx hx=>hP x hx.1⟩,λe he j hj=> ?_, .inr ⟨k,Jh.1,λe he _=>w2 e (i_ _ he),λj hj=>by rw[xM j ae];exact h.p _ nQ j ae⟩,qo,Nat.or_lt_two_pow l2 (yP _ (by decide))⟩⟩
 . by_cases Zp:j=d
   . subst Zp;rw[U8];exact(w3.all e he).2
   . exact h.p e (hza e he) j ae
 . by_cases Zp:j=d
   . subst Zp
     have U1:=(w4.all e he).2;rw[U1,Nat.testBit_or,U8,PX,Nat.testBit_two_pow_self];by_cases wT:j<64
     . simp[wT]
     . exfalso
       have h1:=qW e.1;have h3:(2:Nat)^64<=2^j:=yN ae ae;rw[vq (show cr e.1<2^j by omega)]at U1;cases U1
   . rw[xM j ae]
     exact h.p e (hoa e he) j ae
end
abbrev PL:=TT×Nat×Nat
def Wq(st:List PL):List (Int×Int):=st.flatMap λp=>p.1.aP
def XY(st:List PL):List Nat:=st.flatMap λp=>p.1.ar
structure ND(NN b:Nat)(L:Nat->Int)(F0:AJ)(t:TT)(st:List PL)(dn:List (Int×Int))(uY:List Nat)(F:AJ):Prop where
 pl:∀p∈st,Al NN b L p.1 p.2.1 p.2.2
 es:F.es=F0.es++dn
 pe:(dn++Wq st).Perm t.aP
 se:F.seen=dR F0.seen uY
 pn:(uY++XY st).Perm t.ar
 ks:∀x,F.ks x=true->F0.ks x=true\/∃e∈dn,e.1=x
 nk:F.nk=F0.nk+dn.length
 fr:F.free=F0.free
structure TrH(F0:AJ)(t:TT):Prop where
 nd:t.ar.Nodup
 uq:t.aP.Pairwise (λa b=>a.1≠b.1)
 sn:∀n∈t.ar,F0.seen[n]?=some false
 ks:∀e∈t.aP,F0.ks e.1=false
section
variable{NN b n d pa:Nat}{L:Nat->Int}{k v:Int}{z o t:TT}{F0 F:AJ}{st:List PL}{dn:List (Int×Int)}{uY:List Nat}
theorem ND.start(h:Al NN b L t 0 0):ND NN b L F0 t [(t,0,0)] [] [] F0:=
 ⟨λp hp=>by rw[gH.1 hp];exact h,by simp,by simp[Wq],rfl,by simp[XY],λx hx=> .inl hx,by simp,rfl⟩
theorem ND.skip(h:ND NN b L F0 t (st++[(.nil,d,pa)]) dn uY F):ND NN b L F0 t st dn uY F:=
 ⟨λp hp=>h.pl p (iu _ hp),h.es,by have:=h.pe;simpa [Wq,TT.aP]using this,h.se,by have:=h.pn;simpa [XY,TT.ar]using this,h.ks,h.nk,h.fr⟩
theorem ND.new(h:ND NN b L F0 t (st++[(.node n k v z o,d,pa)]) dn uY F)(hH:TrH F0 t):F.seen[n]?=some false/\F.ks k=false:=by
 have hn:n∈t.ar:=h.pn.mem_iff.1 (by simp[XY,TT.ar]);have hk:(k,v)∈t.aP:=h.pe.mem_iff.1 (by simp[Wq,TT.aP]);constructor
 . rw[h.se,nW _ _ _ ?_]
   . exact hH.sn n hn
   . intro hv
     have h1:=(h.pn.nodup_iff).2 hH.nd;rw[tW]at h1;exact h1.2.2 n hv n (by simp[XY,TT.ar]) rfl
 . cases hx:F.ks k with
   |false=>rfl
   |true=>
    exfalso
    rcases h.ks k hx with h1|⟨e,he,h1⟩
    . rw[hH.ks _ hk]at h1;cases h1
    . have h2:(dn++Wq (st++[(.node n k v z o,d,pa)])).Pairwise (λa b=>a.1≠b.1):=hH.uq.perm h.pe.symm (λBr=>cC Br)
      rw[Fo]at h2;exact h2.2.2 e he (k,v) (by simp[Wq,TT.aP]) h1
theorem ND.next(h:ND NN b L F0 t (st++[(.node n k v z o,d,pa)]) dn uY F)(lT:∀x y,KR x->KR y->cr x=cr y->x=y):
 ND NN b L F0 t (st++[(z,d+1,pa),(o,d+1,pa|||(2^d%2^64))]) (dn++[(k,v)]) (uY++[n]) {seen:=F.seen.set n true,ks:=λx=>if k=x then true else F.ks x,nk:=F.nk+1,es:=F.es++[(k,v)],free:=F.free}:=by
 obtain⟨_,_,_,_,_,_,_,_,_,hz,ho⟩:=(h.pl _ (i_ _ (gH.2 rfl))).node lT;refine⟨λp hp=> ?_,by rw[h.es];simp,?_,by rw[v_,h.se],?_,λx hx=> ?_,by simp only[dO,List.length_singleton];have:=h.nk;omega,h.fr⟩
 . rcases List.mem_append.1 hp with hp|hp
   . exact h.pl p (iu _ hp)
   . simp only[dr,fH,gF]at hp
     rcases hp with rfl|rfl
     . exact hz
     . exact ho
 . refine List.Perm.trans ?_ h.pe
   simp only[Wq,Cl,yM,KB,TT.aP,vh,iZ,List.singleton_append];refine zd dn ?_;exact(KE (l₁:=st.flatMap λp=>p.1.aP) (a:=(k,v)) (l₂:=z.aP++o.aP)).symm
 . refine List.Perm.trans ?_ h.pn
   simp only[XY,Cl,yM,KB,TT.ar,vh,iZ,List.singleton_append];refine zd uY ?_;exact(KE (l₁:=st.flatMap λp=>p.1.ar) (a:=n) (l₂:=z.ar++o.ar)).symm
 . dsimp only at hx
   by_cases Jg:k=x
   . exact .inr ⟨(k,v),by simp,Jg⟩
   . rw[ax Jg]at hx
     rcases h.ks x hx with h1|⟨e,he,h1⟩
     . exact .inl h1
     . exact .inr ⟨e,iu _ he,h1⟩
end
def u6(j:Nat):Nat:=if j<2 then 257+j else 262+j
def Ie(lines NN j:Nat):Int:=if j=0 then(lines:Int)else if j=1 then 1 else if j<10 then 0 else if(j-10)%4=2 then(if(j-10)/4+1=NN then 0 else(((j-10)/4+2:Nat):Int))else 0
def rC(lines NN m:Nat):List (Int×Int):=(List.range m).map λj=>(8*((u6 j:Nat):Int),Ie lines NN j)
theorem IY(lines NN m:Nat):(rC lines NN m).length=m:=by simp[rC]
theorem pH(lines NN m:Nat):rC lines NN (m+1)=rC lines NN m++[(8*((u6 m:Nat):Int),Ie lines NN m)]:=by simp[rC,xf]
theorem OM(lines NN b:Nat)(hb:b<8):rC lines NN (2+b+1)=rC lines NN (2+b)++[(8*((eJ 256 b:Nat):Int),0)]:=by
 rw[pH];congr 3
 . unfold u6 eJ;rw[ax ae];omega
 . unfold Ie;rw[ax ae,ax ae,aA ae]
theorem OO(lines NN k:Nat):rC lines NN (10+4*k+4)=rC lines NN (10+4*k)++[(8*((aQ 256 8 (k+1) 0:Nat):Int),0),(8*((aQ 256 8 (k+1) 1:Nat):Int),0),(8*((aQ 256 8 (k+1) 2:Nat):Int),if k+1=NN then 0 else((k+2:Nat):Int)),(8*((aQ 256 8 (k+1) 3:Nat):Int),0)]:=by
 have hi:∀j,j<4->u6 (10+4*k+j)=aQ 256 8 (k+1) j:=λj hj=>by unfold u6 aQ;rw[ax ae];omega
 have hv:∀j,j<4->j≠2->Ie lines NN (10+4*k+j)=0:=λj hj h2=>by unfold Ie;rw[ax ae,ax ae,ax ae,ax ae]
 have UA:Ie lines NN (10+4*k+2)=if k+1=NN then 0 else((k+2:Nat):Int):=by
  unfold Ie;rw[ax ae,ax ae,ax ae,aA ae];have:(10+4*k+2-10)/4=k:=by omega
  rw[this]
 rw[show 10+4*k+4=10+4*k+1+1+1+1 by omega,pH,pH,pH,pH];rw[show 10+4*k+1+1+1=10+4*k+3 by omega,show 10+4*k+1+1=10+4*k+2 by omega];have h0:=hi 0 ae;have v0:=hv 0 ae ae;rw[Nat.add_zero]at h0 v0;rw[h0,v0,hi 1 ae,hv 1 ae ae,hi 2 ae,UA,hi 3 ae,hv 3 ae ae];simp
theorem xB{lines NN m:Nat}{p:Int×Int}(h:p∈rC lines NN m):∃j,j<m/\p.1=8*((u6 j:Nat):Int)/\p.2=Ie lines NN j:=by
 obtain⟨j,hj,rfl⟩:=iJ.1 h;exact⟨j,by simpa using hj,rfl,rfl⟩
theorem yt{j:Nat}:257<=u6 j/\u6 j<=262+j:=by unfold u6;split<;>omega
theorem OL{lines NN j:Nat}(hl:lines<1000)(hj:j<10000):0<=Ie lines NN j/\Ie lines NN j<100000:=by
 unfold Ie;repeat(first|split|omega)
theorem Ip(lines NN m:Nat):(starts (rC lines NN m)).Pairwise (· <= ·):=by
 rw[A8];intro i j hi hj xn;simp only[starts,rC,vo,PJ];unfold cG u6;split<;>split<;>omega
def yu(xs:List Int)(lines NN:Nat):List Int:=aO (aO (aO xs [(2048,0)]) (rC lines NN (10+4*NN))) [(2048,327831077452)]
structure Bw(xs:List Int)(lines NN:Nat):Prop where
 mark:xs[256]?=some 327831077452
 zero:∀k,259<=k->k<264->xs[k]?=some 0
 wd:∀j,j<10+4*NN->xs[u6 j]?=some (Ie lines NN j)
theorem TN:∀i j,u6 i=u6 j->i=j:=by
 intro i j h;unfold u6 at h;split at h<;>split at h<;>omega
section
variable{xs:List Int}{lines NN:Nat}
theorem Bw.rt(h:Bw xs lines NN){b:Nat}(hb:b<8):xs[eJ 256 b]?=some 0:=by
 have:=h.wd (2+b) ae;rw[show u6 (2+b)=eJ 256 b by unfold u6 eJ;rw[ax ae];omega]at this;rw[this];unfold Ie;rw[ax ae,ax ae,aA ae]
theorem Bw.nd(h:Bw xs lines NN){n j:Nat}(h1:1<=n)(h2:n<=NN)(hj:j<4):xs[aQ 256 8 n j]?=some (if j=2 then(if n=NN then 0 else((n+1:Nat):Int))else 0):=by
 have:=h.wd (10+4*(n-1)+j) ae;rw[show u6 (10+4*(n-1)+j)=aQ 256 8 n j by unfold u6 aQ;rw[ax ae];omega]at this;rw[this];congr 1;unfold Ie;rw[ax ae,ax ae,ax ae];by_cases h2:j=2
 . subst h2
   rw[aA ae,aA rfl];have e:(10+4*(n-1)+2-10)/4=n-1:=by omega
   rw[e,show n-1+1=n by omega,show n-1+2=n+1 by omega]
 . rw[ax ae,ax h2]
theorem Bw.at_(he:Bw xs lines NN){k:Nat}(hk:Mq 256 (8+4*NN) k)(hl:lines<1000)(hN:NN<1000):xs[k]?=some (xs.getD k 0)/\0<=xs.getD k 0/\xs.getD k 0<4611686018427387904:=by
 unfold Mq at hk
 have:∀v:Int,xs[k]?=some v->0<=v->v<4611686018427387904->xs[k]?=some (xs.getD k 0)/\0<=xs.getD k 0/\xs.getD k 0<4611686018427387904:=λv hv h1 h2=>by
  rw[eY,hv];exact⟨rfl,h1,h2⟩
 by_cases h0:k=256
 . subst h0;exact this _ he.mark ae ae
 . by_cases h1:259<=k/\k<264
   . exact this _ (he.zero k h1.1 h1.2) ae ae
   . obtain⟨j,hj,rfl⟩:∃j,j<10+4*NN/\u6 j=k:=by
      by_cases h2:k<259
      . exact⟨k-257,by omega,by unfold u6;rw[aA ae];omega⟩
      . exact⟨k-262,by omega,by unfold u6;rw[ax ae];omega⟩
     have hr:=OL (lines:=lines) (NN:=NN) (j:=j) hl ae;exact this _ (he.wd j hj) hr.1 ae
theorem Bw.getD(h:Bw xs lines NN){k:Nat}{v:Int}(hv:xs[k]?=some v):xs.getD k 0=v:=by rw[eY,hv];rfl
theorem Bw.fl(he:Bw xs lines NN)(hN:NN<1000):∀m n,1<=n->n+m=NN+1->J_ (λk=>xs.getD k 0) (aQ 256 8) NN (List.range' n m) (if m=0 then 0 else(n:Int))
 |0,n,_,_=>rfl
 |m+1,n,h1,h2=>by
  rw[ax ae];refine⟨rfl,h1,by omega,?_,?_⟩
  . show xs.getD (aQ 256 8 n 3) 0%_=0
    rw[he.getD (he.nd h1 ae ae)];rfl
  . have ih:=he.fl hN m (n+1) ae ae
    have e:bu (λk=>xs.getD k 0) (aQ 256 8 n 2)=(if m=0 then 0 else((n+1:Nat):Int)):=by
     show xs.getD (aQ 256 8 n 2) 0%_=_
     rw[he.getD (he.nd h1 ae ae),aA rfl];by_cases hm:m=0
     . rw[aA ae,aA hm];rfl
     . rw[ax ae,ax hm]
       omega
    rw[e];exact ih
theorem Bw.ab(he:Bw xs lines NN)(hN:NN<1000)(h0:0<NN):kQ 256 8 NN cr N_ (λk=>xs.getD k 0) (λ_=> .nil) (List.range' 1 NN) []:=by
 refine⟨λb hb=> ?_,λb hb=>trivial,?_,λb hb=>List.nodup_nil,λb b' n _ _ h=>by simp[TT.ar]at h,List.nodup_range',λb n _ h=>by simp[TT.ar]at h,List.Pairwise.nil,λe=> ?_,by simp,λn h1 h2=> .inl (by rw[List.mem_range'_1];omega)⟩
 . show xs.getD (eJ 256 b) 0%_=0
   rw[he.getD (he.rt hb)];rfl
 . have h1:=he.fl hN NN 1 ae ae
   have e:bu (λk=>xs.getD k 0) (nV 256)=(if NN=0 then 0 else((1:Nat):Int)):=by
    show xs.getD (256+2) 0%_=_
    have:=he.wd 1 ae;rw[show u6 1=256+2 from rfl]at this;rw[he.getD this,ax ae];rfl
   rw[e];exact h1
 . constructor
   . intro h;simp at h
   . rintro⟨b,_,h⟩;simp[TT.aP]at h
theorem Bw.xG(he:Bw xs lines NN):xr lines (λk=>xs.getD k 0):=by
 refine⟨he.getD he.mark,?_⟩;have:=he.wd 0 ae;exact he.getD this
theorem Bw.cn(he:Bw xs lines NN){b:Nat}(hb:b<8):xs.getD (eJ 256 b) 0/1099511627776<=0:=by rw[he.getD (he.rt hb)];decide
theorem jN(ws:List (Int×Int))(hw:∀p∈ws,0<=p.2/\p.2<18446744073709551616):∀xs,Fits xs->Fits (aO xs ws):=by
 induction ws with
 |nil=>intro xs h;exact h
 |cons p ws ih=>
  intro xs h;have e:aO xs (p::ws)=aO (xs.set (p.1/8).toNat p.2) ws:=rfl;rw[e];refine ih (λq hq=>hw q (by simp[hq])) _ (λx hx=> ?_);rcases List.mem_or_eq_of_mem_set hx with hx|hx
  . exact h x hx
  . rw[hx];exact hw p smQ
theorem Fx(xs:List Int)(n:Nat)(hx:xs.length=8*n):Clean (jW xs n) n xs 0:=by
 have h:=Ym xs n hx;refine⟨h.good,h.nl,rfl,rfl,rfl,rfl,λq l hl=> ?_,λ_=>rfl,λ_ _=>rfl⟩;simp only[jW,IA]at hl;split at hl
 . injection hl with hl;rw[<-hl]
 . cases hl
theorem oE(idx:Nat->Nat)(lT:∀i j,idx i=idx j->i=j)(f:Nat->Int)(xs:List Int):∀m j,j<m->idx j<xs.length->(aO xs ((List.range m).map λj=>(8*((idx j:Nat):Int),f j)))[idx j]?=some (f j)
 |0,j,h,_=>by omega
 |m+1,j,h,hl=>by
  rw[xf,yL,oV,wu,qE];have e:(8*((idx m:Nat):Int)/8).toNat=idx m:=by omega
  rw[e,De];by_cases hj:j=m
  . subst hj
    rw[aA rfl,aA (by rw[bX];exact hl)]
  . rw[ax (λhe=>hj (lT _ _ he.symm))]
    exact oE idx lT f xs m j ae hl
def G0(lines NN:Nat):List Int:=yu (aO (List.replicate (8*(32+lines)) 0) (eF 0 8)) lines NN
theorem IX(lines NN:Nat):(G0 lines NN).length=8*(32+lines):=by unfold G0 yu;simp only[bX,yO]
theorem nE(xs:List Int)(v:Int){k:Nat}(hk:k≠256):(aO xs [(2048,v)])[k]?=xs[k]?:=mq _ _ (λp hp=>by simp at hp;rw[hp];show((2048:Int)/8).toNat≠_;omega) _
theorem EM(xs:List Int)(m:Nat){k:Nat}(hk:∀j,j<m->u6 j≠k):(aO xs (rC lines NN m))[k]?=xs[k]?:=mq _ _ (λp hp=>by
 obtain⟨j,hj,h1,_⟩:=xB hp;have:=hk j hj;rw[h1];omega) _
theorem XI(lines NN:Nat)(k:Nat)(hk:k<8):(G0 lines NN)[8*(0+4*k)]?=some 1836515329:=by
 unfold G0 yu;rw[nE (k:=8*(0+4*k)) _ _ ae,EM (k:=8*(0+4*k)) _ _ (λj _=>by have:=yt (j:=j);omega),nE (k:=8*(0+4*k)) _ _ ae];exact oE (λk=>8*(0+4*k)) (λi j h=>by have h':8*(0+4*i)=8*(0+4*j):=h;omega) (λ_=>1836515329) (List.replicate (8*(32+lines)) 0) 8 k hk (by rw[yO];show 8*(0+4*k)<_;omega)
theorem Ow(lines NN:Nat)(h:8<=lines)(hN:2*(lines-2)=NN):Bw (G0 lines NN) lines NN:=by
 refine⟨?_,λk h1 h2=> ?_,λj hj=> ?_⟩
 . unfold G0 yu
   have hl:256<(aO (aO (aO (List.replicate (8*(32+lines)) 0) (eF 0 8)) [(2048,0)]) (rC lines NN (10+4*NN))).length:=by
    rw[bX,bX,bX,yO];omega
   show((aO (aO (aO (List.replicate (8*(32+lines)) 0) (eF 0 8)) [(2048,0)]) (rC lines NN (10+4*NN))).set 256 327831077452)[256]?=_
   rw[nX hl]
 . unfold G0 yu
   rw[nE (k:=k) _ _ ae,EM (k:=k) _ _ (λj _=>by unfold u6;split<;>omega),nE (k:=k) _ _ ae,mq (eF 0 8) k (λp hp=>by
    unfold eF at hp;obtain⟨j,hj,rfl⟩:=iJ.1 hp;have hj:j<8:=by simpa using hj
    dsimp only;unfold cP;omega)]
   rw[IA,aA ae]
 . unfold G0 yu
   rw[nE (k:=u6 j) _ _ (by have:=yt (j:=j);omega)];exact oE u6 TN (Ie lines NN) _ (10+4*NN) j hj (by rw[bX,bX,yO];have:=yt (j:=j);omega)
theorem Ov(lines NN:Nat)(h:lines<1000)(hN:NN<1000):Fits (G0 lines NN):=by
 unfold G0 yu;refine jN _ (λp hp=> ?_) _ (jN _ (λp hp=> ?_) _ (jN _ (λp hp=> ?_) _ (jN _ (λp hp=> ?_) _ (λx hx=> ?_))))
 . simp at hp;rw[hp];exact⟨by decide,by decide⟩
 . obtain⟨j,hj,_,h2⟩:=xB hp
   have:=OL (lines:=lines) (NN:=NN) (j:=j) h ae;rw[h2];omega
 . simp at hp;rw[hp];exact⟨by decide,by decide⟩
 . unfold eF at hp
   obtain⟨k,_,rfl⟩:=iJ.1 hp;exact⟨by show(0:Int)<=1836515329;omega,by show(1836515329:Int)<18446744073709551616;omega⟩
 . have:=List.eq_of_mem_replicate hx
   rw[this];exact⟨by decide,by decide⟩
end
theorem dJ{P:Program}{w:World}{ops:Array Oper}{o:Oper}{a:Act}{K:Act->World->Prop}{Q:Exit->Act->World->Prop}{E:Prop}(DM:o.guard=none)(s x:Operand)(t:TypeId)
 (ho:o.op= .call {callee:= .builtin .append,args:= #[s,x],argTypes:= #[t,t]}) (e:TypeId) (zv:Value) (size oP:Nat) (I7:zv.cells.size=size) (lR:0<size) (ht:P.underlying t=some (.slice e)) (bp:(P.info? e).map (λi=>(i.zero,i.size,i.bytes))=some (some zv,size,oP)) (AG:oP<=64)
 (A:Option Addr) (n c:Nat) (xs:List Value) (ad:Addr) (m d:Nat) (ys:List Value) (AE:a.eval s= .slice A n c) (MK:a.eval x= .slice (some ad) m d) (cL:Sl e size w A n c xs) (hm:ys.length=m*size) (DK:0<m) (hr:∀j u,ys[j]?=some u->w.cell? (ad.add j)=some u) (hf:∀u∈ys,u.oneCell'=true)
 (hbound:n+m<=1000000000)
 (h:∀A' c' w',Hid (Sl e size w' A' (n+m) c' (xs++ys))->Hid (Ch (ah A) w w')->Hid (∀b,ah A' b->ah A b\/b=w.heap.size)->Hid (c<n+m->A'=some ⟨w.heap.size,0,none⟩)->K (a.put o.dst (.slice A' (n+m) c')) w'):
 if Region.wanted o (yielded ops a.tmps)=true then Oper.wp P o a w K Q else E:=by
 have hw:Region.wanted o (yielded ops a.tmps)=true:=by simp[Region.wanted,DM]
 rw[aA hw];obtain⟨A',c',w',gL,h1,h2,h3,h4⟩:=mB (P:=P) w t o.type e zv size oP I7 lR ht bp AG A n c xs cL ad m d ys hm DK hr hf hbound;unfold Oper.wp;simp[execOp,ho,resolve,invoke,builtin,AE,MK,gL,Result.andThen];exact h A' c' w' h1 h2 h3 h4
theorem dT(w:World)(e:TypeId)(l:List Value):∀(j:Nat) (u:Value),l[j]?=some u->(w.alloc (.cells l.toArray e)).cell? ((⟨w.heap.size,0,none⟩:Addr).add j)=some u:=by
 intro j u hu;have h1:(⟨w.heap.size,0,none⟩:Addr).add j=⟨w.heap.size,j,none⟩:=by unfold Addr.add;split<;>simp_all
 rw[h1,(CB.new w e l.toArray).cell j];simpa using hu
end Go.Proofs.YtjkpjakodomnmaaGreatDoor
