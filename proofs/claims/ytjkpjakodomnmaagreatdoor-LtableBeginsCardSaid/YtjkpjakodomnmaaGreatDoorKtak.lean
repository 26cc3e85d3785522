/- The base, part 11 (merged). -/
import Derived.Test.YtjkpjakodomnmaaGreatDoorKtaj
import Derived.Sort.LotD5
set_option linter.unusedVariables false
set_option linter.unusedSimpArgs false
set_option maxRecDepth 100000
set_option maxHeartbeats 16000000
namespace Go.Proofs.YtjkpjakodomnmaaGreatDoor
open Go.RowKit Go.Proofs.Tryz
def SoP(w:World)(g off n c:Nat)(D:Array Int)(e:Ending)(w':World):Prop:=e= .returned (.tuple #[])/\vY w g off n c D w'
theorem insOuter_go{lt:Int->Int->Bool}{a b k:Nat}{d:Array Int}(h:k<b):Sort.insOuter lt a b k d=Sort.insOuter lt a b (k+1) (Sort.insInner lt a k d):=by
 rw[Sort.insOuter,aA h]
theorem Dy{lt:Int->Int->Bool}{a b k:Nat}{d:Array Int}(h:¬k<b):Sort.insOuter lt a b k d=d:=by
 rw[Sort.insOuter,ax h]
theorem insInner_go{lt:Int->Int->Bool}{a j:Nat}{d:Array Int}(h:a<j+1)(hl:lt d[j+1]! d[j]! =true):Sort.insInner lt a (j+1) d=Sort.insInner lt a j (Sort.swp d (j+1) j):=by
 rw[Sort.insInner,aA (by simp[hl];omega)]
theorem Dz{lt:Int->Int->Bool}{a j:Nat}{d:Array Int}(h:lt d[j+1]! d[j]! =false):Sort.insInner lt a (j+1) d=d:=by
 rw[Sort.insInner,ax (by simp[h])]
theorem FN{lt:Int->Int->Bool}{a:Nat}{d:Array Int}:Sort.insInner lt a a d=d:=by
 cases a with
 |zero=>rfl
 |succ a=>rw[Sort.insInner,ax smQ]
theorem YF(w0 w:World)(g off n c a b:Nat)(d0:Array Int)(Br:a<b)(SN:b<=n)(hm:n<=1000000)(hS:vY w0 g off n c d0 w):
 Calls Tryz.prog 151 #[.slice (some ⟨g,off,none⟩) n c, .int .i64 (a:Int), .int .i64 (b:Int)] w (SoP w0 g off n c (Sort.insertionSort Sort.ltInt d0 a b)):=by
 have jc:=ag hS;obtain⟨D,hD⟩:=aH (Sort.insertionSort Sort.ltInt d0 a b);have HD:Hid (Sort.insOuter Sort.ltInt a b (a+1) d0=D):=hD;rw[hD];clear hS hD;have ea:IntKind.i64.wrap ((a:Int)+1)=((a+1:Nat):Int):=by rw[b9 _ ae];omega
 go_enter func151,ntmps151
 go_wp2;go_loopw [6,7,10,11,12,13,14,15,16,17,18,19,20,21,22,23,24,25,26,27,28,29,30,31,32,33,34,35,36,37,38,39,40,41,42,43,44,45,46,47,48] (λi _ _ _ _ _ _ _ _ _ _ _ _ _ _ _ _ _ _ _ _ _ _ _ _ _ _ _ _ _ _ _ _ _ _ _ _ _ _ _ _ wr=>∃(k:Nat) (ys:Array Int),a<k/\k<=b/\i= .int .i64 (k:Int)/\vY w0 g off n c ys wr/\Sort.insOuter Sort.ltInt a b k ys=D) (λi _ _ _ _ _ _ _ _ _ _ _ _ _ _ _ _ _ _ _ _ _ _ _ _ _ _ _ _ _ _ _ _ _ _ _ _ _ _ _ _ _=>b-(intOf i).toNat)
 case atStart=>exact⟨a+1,d0,by omega,by omega,by go_num,jc.out,HD.out⟩
 case round=>
  clear jc HD;obtain⟨k,ys,iy,hk,rfl,hI,Lf⟩:=hrel;have HI:=ag hI;have LC:=ag Lf;clear hI Lf;by_cases aM:k<b
  . have dx:(k:Int)<(b:Int):=by omega
    have ek:IntKind.i64.wrap ((k:Int)+1)=((k+1:Nat):Int):=by rw[b9 _ ae];omega
    go_wp2;go_loopw [7,16,17,18,19,20,21,22,23,24,25,26,27,28,29,30,31,32,33,34,35,36,37,38,39,40,41,42,43,44,45,46,47,48] (λi _ _ _ _ _ _ _ _ _ _ _ _ _ _ _ _ _ _ _ _ _ _ _ _ _ _ _ _ _ _ _ _ _ wq=>∃(j:Nat) (zs:Array Int),a<=j/\j<=k/\i= .int .i64 (j:Int)/\vY w0 g off n c zs wq/\Sort.insOuter Sort.ltInt a b (k+1) (Sort.insInner Sort.ltInt a j zs)=D) (λi _ _ _ _ _ _ _ _ _ _ _ _ _ _ _ _ _ _ _ _ _ _ _ _ _ _ _ _ _ _ _ _ _ _=>(intOf i).toNat)
    case atStart=>exact⟨k,ys,by omega,by omega,rfl,HI.out,(insOuter_go aM).symm.trans LC.out⟩
    case round=>
     clear HI LC;obtain⟨j,zs,hj1,MT,rfl,hI,hH⟩:=hrel;have HI:=ag hI;have HH:=ag hH;clear hI hH;by_cases hja:a<j
     . obtain⟨q,rfl⟩:∃q,j=q+1:=⟨j-1,by omega⟩
       have c1:=HI.out.word (i:=q+1) ae;have c0:=HI.out.word (i:=q) ae;have eh:=HI.out.lt;have fz:=HI.out.1.mZ;obtain⟨x1,lC⟩:∃x,zs[q+1]! =x:=⟨_,rfl⟩;obtain⟨x0,ux⟩:∃x,zs[q]! =x:=⟨_,rfl⟩;have Au:=ag lC;have HX0:=ag ux;rw[lC]at c1;rw[ux]at c0;have q1:((q+1:Nat):Int)=(q:Int)+1:=by omega
       have q2:(q:Int)+1-1=(q:Int):=by omega
       have q3:IntKind.i64.wrap ((q:Int)+1-1)=(q:Int):=by rw[q2];exact b9 _ ae
       have q4:((q:Int)+1).toNat=q+1:=by omega
       have q5:IntKind.i64.wrap (q:Int)=(q:Int):=b9 _ ae;have kP:decide ((q:Int)+1>(a:Int))=true:=kx ae;have Zz:decide ((a:Int)<(q:Int)+1)=true:=kx ae;have UG:q+1<n:=by omega
       have Zet:(q:Int)+1<(n:Int):=by omega
       have Zeu:(q:Int)<(n:Int):=by omega
       have hq0:(0:Int)<=(q:Int):=by omega
       have oL:(0:Int)<=(q:Int)+1:=by omega
       clear lC ux;rw[q1];by_cases Eh:x1<x0
       . have hd:decide (x1<x0)=true:=kx Eh
         go_wp2;refine Dh krQ krQ ?_;repeat(go_big_quiet_step ((go_at_call 157;exact mE (zq _ _ _))))
         refine cE ?_;rintro _ ⟨nq,rfl⟩;go_upto_region 6 with(fail)
         refine kU [] [.p [0,1,2,3,4,5,6,7,10,11], .q [8,9,12,13,14], .h [15,16,17]] krQ (λ_ _ d _ _ h=>by cases d<;>exact h) krQ ?_
         dsimp only[pick,List.filterMap,List.getElem?_cons_zero,List.getElem?_cons_succ];refine cE ?_;rintro _ ⟨nq1,rfl⟩;with_reducible refine nz ?_
         dsimp only[pick,List.filterMap,List.getElem?_cons_zero,List.getElem?_cons_succ]
         (repeat(first|(refine tZ rfl ?_;apply Exists.intro;apply And.intro;(intro w;go_simp;rfl);simp only[puQ])|(refine qP rfl ?_;simp only[puQ])));refine pure_nil ?_
         with_reducible refine sS ?_
         dsimp only[pick,List.filterMap,List.getElem?_cons_zero,List.getElem?_cons_succ]
         (repeat(go_big_quiet_step (fail)));refine cE ?_
         rintro _ ⟨Ba,rfl⟩;with_reducible refine fj ?_
         dsimp only[pick,List.filterMap,List.getElem?_cons_zero,List.getElem?_cons_succ];go_wp2;with_reducible refine gz ?_
         with_reducible refine gI ?_
         go_wp2;have Zbh:=(HI.out.drewN (nq+nq1+Ba)).swap (i:=q+1) (j:=q) ae ae;rw[HX0.out,Au.out]at Zbh;exact⟨⟨q,Sort.swp zs (q+1) q,by omega,by omega,rfl,Zbh,(by have e:=insInner_go (lt:=Sort.ltInt) (a:=a) (j:=q) (d:=zs) ae (by unfold Sort.ltInt;rw[HX0.out,Au.out];exact kx Eh);have h:=HH.out;rw[e]at h;exact h)⟩,by simp[intOf]<;>omega⟩
       . have hd:decide (x1<x0)=false:=oX Eh
         go_wp2;refine Dh krQ krQ ?_;repeat(go_big_quiet_step ((go_at_call 157;exact mE (zq _ _ _))))
         refine cE ?_;rintro _ ⟨nq,rfl⟩;go_wp2;exact⟨⟨k+1,zs,by omega,by omega,by go_num,HI.out.drewN nq,(by have e:=Dz (lt:=Sort.ltInt) (a:=a) (j:=q) (d:=zs) (by unfold Sort.ltInt;rw[HX0.out,Au.out];exact oX ae);have h:=HH.out;rw[e]at h;exact h)⟩,by simp[intOf]<;>omega⟩
     . obtain rfl:j=a:=by omega
       have kP:decide ((j:Int)>(j:Int))=false:=by simp
       go_wp2;refine Dh krQ krQ ?_;repeat(go_big_quiet_step (fail))
       refine cE ?_;rintro _ ⟨nq,rfl⟩;go_wp2;exact⟨⟨k+1,zs,by omega,by omega,by go_num,HI.out.drewN nq,(by have h:=HH.out;rw[FN]at h;exact h)⟩,by simp[intOf]<;>omega⟩
  . obtain rfl:k=b:=by omega
    go_wp2;go_end0
    exact⟨rfl,by have h:=LC.out;rw[Dy ae]at h;rw[<-h];exact HI.out⟩
def Lz(w:World)(g off n c:Nat)(d:Array Int)(s sw:Nat)(wr:World):Prop:=vY w g off n c d wr/\CB wr s 3 #[.int .i64 (sw:Int)]/\w.heap.size<=s/\¬s=g
theorem Lz.drewN{w wr:World}{g off n c s sw:Nat}{d:Array Int}(h:Lz w g off n c d s sw wr)(q:Nat):Lz w g off n c d s sw (wr.drewN q):=⟨h.1.drewN q,h.2.1.drewN q,h.2.2⟩
theorem Lz.inc{w wr:World}{g off n c s sw:Nat}{d:Array Int}(h:Lz w g off n c d s sw wr)(k:Nat):Lz w g off n c d s k (wr.setCell ⟨s,0,none⟩ (.int .i64 (k:Int))):=by
 obtain⟨h1,h2,h3,h4⟩:=h;refine⟨⟨h1.1.keep (λb hb=>ft _ _ _ _ ?_),h1.2.1,h1.2.2.1.setCell (a:=⟨s,0,none⟩) (.inr h3) _,(Ae (ft _ _ _ _ (λhe=>h4 he.symm))).trans h1.2.2.2⟩,h2.set 0 _,h3,h4⟩;have:b=g:=by simpa [ah,wm]using hb
 rw[this];exact λhe=>h4 he.symm
def O2P(w:World)(g off n c:Nat)(d:Array Int)(s:Nat)(r:Nat×Nat×Nat)(e:Ending)(w':World):Prop:=e= .returned (.tuple #[.int .i64 (r.1:Int), .int .i64 (r.2.1:Int)])/\Lz w g off n c d s r.2.2 w'
def MdP(w:World)(g off n c:Nat)(d:Array Int)(s:Nat)(r:Nat×Nat)(e:Ending)(w':World):Prop:=e= .returned (.int .i64 (r.1:Int))/\Lz w g off n c d s r.2 w'
section
variable{w0 w:World}{g off n c s sw:Nat}{d:Array Int}
theorem order2_lt(d:Array Int)(i j sw n:Nat)(hi:i<n)(hj:j<n):(Sort.order2 Sort.ltInt d i j sw).1<n/\(Sort.order2 Sort.ltInt d i j sw).2.1<n/\(Sort.order2 Sort.ltInt d i j sw).2.2<=sw+1:=by
 unfold Sort.order2;split<;>simp<;>omega
theorem nD(d:Array Int)(i j k sw n:Nat)(hi:i<n)(hj:j<n)(hk:k<n):(Sort.median Sort.ltInt d i j k sw).1<n/\(Sort.median Sort.ltInt d i j k sw).2<=sw+3:=by
 unfold Sort.median;have h1:=order2_lt d i j sw n hi hj;obtain⟨r1,QF⟩:∃r,Sort.order2 Sort.ltInt d i j sw=r:=⟨_,rfl⟩;rw[QF]at h1;have h2:=order2_lt d r1.2.1 k r1.2.2 n h1.2.1 hk;obtain⟨r2,CG⟩:∃r,Sort.order2 Sort.ltInt d r1.2.1 k r1.2.2=r:=⟨_,rfl⟩;rw[CG]at h2;have h3:=order2_lt d r1.1 r2.1 r2.2.2 n h1.1 h2.1;simp only[QF,CG];omega
theorem Dm(i j:Nat)(hi:i<n)(hj:j<n)(hm:n<=1000000)(Eh:sw<=1000)(H:Lz w0 g off n c d s sw w):
 Calls Tryz.prog 189 #[.slice (some ⟨g,off,none⟩) n c, .int .i64 (i:Int), .int .i64 (j:Int), .pointer (some ⟨s,0,none⟩)] w (O2P w0 g off n c d s (Sort.order2 Sort.ltInt d i j sw)):=by
 have HH:=ag H;have c0:=H.1.word (i:=i) hi;have c1:=H.1.word (i:=j) hj;have hl:=H.1.lt;have Zg:=H.2.1.lt;have cs:w.cell? ⟨s,0,none⟩=some (.int .i64 (sw:Int)):=H.2.1.cell 0;have fs:=H.2.1.frozen 0;obtain⟨x,hx⟩:=aH (d[i]!);obtain⟨y,hy⟩:=aH (d[j]!);have HX:=ag hx;have HY:=ag hy;rw[hx]at c0;rw[hy]at c1;have hiI:(i:Int)<(n:Int):=by omega
 have hjI:(j:Int)<(n:Int):=by omega
 have Zeo:IntKind.i64.wrap ((sw:Int)+1)=((sw+1:Nat):Int):=by rw[b9 _ ae];omega
 clear H hx hy;by_cases aM:y<x
 . have hd:decide (y<x)=true:=kx aM
   have HR:Hid (Sort.order2 Sort.ltInt d i j sw=(j,i,sw+1)):=by
    show _=_
    unfold Sort.order2 Sort.ltInt;rw[HX.out,HY.out,aA hd]
   go_enter func189,ntmps189
   go_upto_region 1 with(fail)
   refine Dh krQ krQ ?_;repeat(go_big_quiet_step ((go_at_call 157;exact mE (zq _ _ _))))
   refine cE ?_;rintro _ ⟨nq,rfl⟩;go_wp2;refine bH (v:= .tuple #[.int .i64 (j:Int), .int .i64 (i:Int)]) (by simp[results,results189,go_sem]) rfl ?_;rw[HR.out];exact⟨rfl,(HH.out.drewN nq).inc (sw+1)⟩
 . have hd:decide (y<x)=false:=oX aM
   have HR:Hid (Sort.order2 Sort.ltInt d i j sw=(i,j,sw)):=by
    show _=_
    unfold Sort.order2 Sort.ltInt;rw[HX.out,HY.out,ax (by rw[hd];decide)]
   go_enter func189,ntmps189
   go_upto_region 1 with(fail)
   refine Dh krQ krQ ?_;repeat(go_big_quiet_step ((go_at_call 157;exact mE (zq _ _ _))))
   refine cE ?_;rintro _ ⟨nq,rfl⟩;go_wp2;refine bH (v:= .tuple #[.int .i64 (i:Int), .int .i64 (j:Int)]) (by simp[results,results189,go_sem]) rfl ?_;rw[HR.out];exact⟨rfl,HH.out.drewN nq⟩
theorem Yu(i j k:Nat)(hi:i<n)(hj:j<n)(hk:k<n)(hm:n<=1000000)(Eh:sw<=100)(H:Lz w0 g off n c d s sw w):
 Calls Tryz.prog 179 #[.slice (some ⟨g,off,none⟩) n c, .int .i64 (i:Int), .int .i64 (j:Int), .int .i64 (k:Int), .pointer (some ⟨s,0,none⟩)] w (MdP w0 g off n c d s (Sort.median Sort.ltInt d i j k sw)):=by
 obtain⟨R,hR⟩:=aH (Sort.median Sort.ltInt d i j k sw);rw[hR];have h1:=order2_lt d i j sw n hi hj;have iA:=Dm i j hi hj hm ae H;unfold Sort.median at hR;obtain⟨⟨a1,b1,s1⟩,QF⟩:∃r,Sort.order2 Sort.ltInt d i j sw=r:=⟨_,rfl⟩;simp only[QF]at h1 iA hR;have h2:=order2_lt d b1 k s1 n h1.2.1 hk;have cz:=λW=>Dm (w0:=w0) (w:=W) (g:=g) (off:=off) (c:=c) (d:=d) (s:=s) b1 k h1.2.1 hk hm (by omega:s1<=1000)
 obtain⟨⟨b2,c2,s2⟩,CG⟩:∃r,Sort.order2 Sort.ltInt d b1 k s1=r:=⟨_,rfl⟩;simp only[CG]at h2 cz hR;have o7:=λW=>Dm (w0:=w0) (w:=W) (g:=g) (off:=off) (c:=c) (d:=d) (s:=s) a1 b2 h1.1 h2.1 hm (by omega:s2<=1000)
 obtain⟨⟨a3,b3,s3⟩,DF⟩:∃r,Sort.order2 Sort.ltInt d a1 b2 s2=r:=⟨_,rfl⟩;simp only[DF]at o7 hR;have tN:=ag iA;have dh:=ag cz;have fo:=ag o7;subst hR;clear H iA cz o7 QF CG DF h1 h2;go_enter func179,ntmps179
 go_upto_region 2 with(go_at_call 189;refine tN.out.mono ?_;rintro e w1 ⟨rfl,hN⟩;have HN:=ag hN;clear hN)
 go_upto_region 3 with(go_at_call 189;refine(dh.out _ HN.out).mono ?_;rintro e w2 ⟨rfl,wP⟩;have Aw:=ag wP;clear wP)
 go_wp2_with (go_at_call 189;refine(fo.out _ Aw.out).mono ?_;rintro e w3 ⟨rfl,Ra⟩)
 go_ret;exact⟨rfl,Ra⟩
theorem Dr(a:Nat)(h1:1<=a)(h2:a+1<n)(hm:n<=1000000)(Eh:sw<=100)(H:Lz w0 g off n c d s sw w):
 Calls Tryz.prog 178 #[.slice (some ⟨g,off,none⟩) n c, .int .i64 (a:Int), .pointer (some ⟨s,0,none⟩)] w (MdP w0 g off n c d s (Sort.medianAdjacent Sort.ltInt d a sw)):=by
 have HM:=ag (Yu (a-1) a (a+1) ae ae h2 hm Eh H);have e1:IntKind.i64.wrap ((a:Int)-1)=((a-1:Nat):Int):=by rw[b9 _ ae];omega
 have e2:IntKind.i64.wrap ((a:Int)+1)=((a+1:Nat):Int):=by rw[b9 _ ae];omega
 unfold Sort.medianAdjacent;obtain⟨p,hp⟩:=aH (a-1);obtain⟨q,hq⟩:∃p,a+1=p:=⟨_,rfl⟩;rw[hp]at e1;rw[hq]at e2;rw[hp,hq]at HM |-;clear H hp hq;go_enter func178,ntmps178
 go_wp2_with (go_at_call 179;refine HM.out.mono ?_;rintro e w' ⟨rfl,hN⟩)
 go_ret;exact⟨rfl,hN⟩
end
def WV:Sort.Hint->Int
 | .unknown=>0
 | .increasing=>1
 | .decreasing=>2
def PvP(w:World)(g off n c:Nat)(d:Array Int)(r:Nat×Sort.Hint)(e:Ending)(w':World):Prop:=e= .returned (.tuple #[.int .i64 (r.1:Int), .int .i64 (WV r.2)])/\vY w g off n c d w'
section
variable{w0 w:World}{g off n c s sw:Nat}{d:Array Int}
theorem Lz.new(h:vY w0 g off n c d w):Lz w0 g off n c d w.heap.size 0 (w.alloc (.cells #[.int .i64 0] 3)):=
 ⟨h.bl (ai (bZ _ _) _),CB.new w 3 #[.int .i64 0],h.2.2.1.size,by have:=h.lt;omega⟩
theorem Yb(a b:Nat)(h8:a+8<=b)(hb:b<=n)(hm:n<=1000000)(H:vY w0 g off n c d w):
 Calls Tryz.prog 154 #[.slice (some ⟨g,off,none⟩) n c, .int .i64 (a:Int), .int .i64 (b:Int)] w (PvP w0 g off n c d (Sort.choosePivot Sort.ltInt d a b)):=by
 obtain⟨l,hl⟩:=aH (b-a);obtain⟨q,hq⟩:=aH (l/4);obtain⟨i,hi⟩:=aH (a+q*1);obtain⟨j,hj⟩:∃i,a+q*2=i:=⟨_,rfl⟩;obtain⟨k,hk⟩:∃i,a+q*3=i:=⟨_,rfl⟩;obtain⟨R,hR⟩:=aH (Sort.choosePivot Sort.ltInt d a b);rw[hR];unfold Sort.choosePivot at hR;simp only[hl,hq,hi,hj,hk]at hR;rw[aA (show l≥8 by omega)]at hR;have H0:=ag (Lz.new H);have Zg:w.heap.size<(w.alloc (.cells #[.int .i64 0] 3)).heap.size:=by simp
 have m2:∃z,q*2=z:=⟨_,rfl⟩;obtain⟨z2,hz2⟩:=m2;have m3:∃z,q*3=z:=⟨_,rfl⟩;obtain⟨z3,hz3⟩:=m3;have e1:IntKind.i64.wrap ((b:Int)-(a:Int))=(l:Int):=by rw[b9 _ ae];omega
 have e2:(l:Int).tdiv 4=(q:Int):=by rw[IC ae];omega
 have e3:IntKind.i64.wrap (q:Int)=(q:Int):=by rw[b9 _ ae]
 have e4:IntKind.i64.wrap ((q:Int)*2)=(z2:Int):=by rw[b9 _ ae];omega
 have e5:IntKind.i64.wrap ((q:Int)*3)=(z3:Int):=by rw[b9 _ ae];omega
 have e6:IntKind.i64.wrap ((a:Int)+(q:Int))=(i:Int):=by rw[b9 _ ae];omega
 have e7:IntKind.i64.wrap ((a:Int)+(z2:Int))=(j:Int):=by rw[b9 _ ae];omega
 have e8:IntKind.i64.wrap ((a:Int)+(z3:Int))=(k:Int):=by rw[b9 _ ae];omega
 have l8:(8:Int)<=(l:Int):=by omega
 clear H;obtain⟨s,hs⟩:=aH w.heap.size;obtain⟨W0,nR⟩:=aH (w.alloc (.cells #[.int .i64 0] 3));rw[hs,nR]at H0;rw[nR,hs]at Zg;by_cases Vh:50<=l
 . have l50:(50:Int)<=(l:Int):=by omega
   rw[aA Vh]at hR;have Vg:=λW=>Dr (w0:=w0) (w:=W) (g:=g) (off:=off) (n:=n) (c:=c) (d:=d) (s:=s) (sw:=0) i ae ae hm ae
   have lC:=nD d (i-1) i (i+1) 0 n ae ae ae;obtain⟨⟨i1,s1⟩,QF⟩:∃r,Sort.medianAdjacent Sort.ltInt d i 0=r:=⟨_,rfl⟩;rw[<-Sort.medianAdjacent]at lC;simp only[QF]at Vg hR lC;have o8:=λW=>Dr (w0:=w0) (w:=W) (g:=g) (off:=off) (n:=n) (c:=c) (d:=d) (s:=s) (sw:=s1) j ae ae hm ae
   have uw:=nD d (j-1) j (j+1) s1 n ae ae ae;obtain⟨⟨i2,s2⟩,CG⟩:∃r,Sort.medianAdjacent Sort.ltInt d j s1=r:=⟨_,rfl⟩;rw[<-Sort.medianAdjacent]at uw;simp only[CG]at o8 hR uw;have SY:=λW=>Dr (w0:=w0) (w:=W) (g:=g) (off:=off) (n:=n) (c:=c) (d:=d) (s:=s) (sw:=s2) k ae ae hm ae
   have Uy:=nD d (k-1) k (k+1) s2 n ae ae ae;obtain⟨⟨i3,s3⟩,DF⟩:∃r,Sort.medianAdjacent Sort.ltInt d k s2=r:=⟨_,rfl⟩;rw[<-Sort.medianAdjacent]at Uy;simp only[DF]at SY hR Uy;have uB:=λW=>Yu (w0:=w0) (w:=W) (g:=g) (off:=off) (n:=n) (c:=c) (d:=d) (s:=s) (sw:=s3) i1 i2 i3 lC.1 uw.1 Uy.1 hm ae
   have hx4:=nD d i1 i2 i3 s3 n lC.1 uw.1 Uy.1;obtain⟨⟨i4,s4⟩,nI⟩:∃r,Sort.median Sort.ltInt d i1 i2 i3 s3=r:=⟨_,rfl⟩;simp only[nI]at uB hR hx4;have HA1:=ag Vg;have HA2:=ag o8;have HA3:=ag SY;have uQ:=ag uB;have HR:=ag hR;clear Vg o8 SY uB QF CG DF nI hR lC uw Uy;go_enter func154,ntmps154
   go_upto_region 3 with(fail)
   go_upto_region 9 with(go_at_call 178;refine(HA1.out _ H0.out).mono ?_;rintro e w1 ⟨rfl,hN⟩;have HN:=ag hN;clear hN)
   go_upto_region 10 with(go_at_call 178;refine(HA2.out _ HN.out).mono ?_;rintro e w1 ⟨rfl,hN⟩;have Aw:=ag hN;clear hN)
   go_upto_region 11 with(go_at_call 178;refine(HA3.out _ Aw.out).mono ?_;rintro e w1 ⟨rfl,hN⟩;have J2:=ag hN;clear hN)
   go_upto_region 12 with(go_at_call 179;refine(uQ.out _ J2.out).mono ?_;rintro e w1 ⟨rfl,hN⟩;have XD:=ag hN;have cs:w1.cell? ⟨s,0,none⟩=some (.int .i64 (s4:Int)):=hN.2.1.cell 0;have jB:=hN.2.1.lt;clear hN)
   by_cases h0:s4=0
   . have h0i:(s4:Int)=0:=by omega
     go_wp2;refine bH (v:= .tuple #[.int .i64 (i4:Int), .int .i64 1]) (by simp[results,results154,go_sem]) rfl ?_;exact⟨by rw[<-HR.out,aA h0];rfl,XD.out.1⟩
   . by_cases h1:s4=12
     . have h0i:¬(s4:Int)=0:=by omega
       have h1i:(s4:Int)=12:=by omega
       go_wp2;refine bH (v:= .tuple #[.int .i64 (i4:Int), .int .i64 2]) (by simp[results,results154,go_sem]) rfl ?_;exact⟨by rw[<-HR.out,ax h0,aA h1];rfl,XD.out.1⟩
     . have h0i:¬(s4:Int)=0:=by omega
       have h1i:¬(s4:Int)=12:=by omega
       go_wp2;refine bH (v:= .tuple #[.int .i64 (i4:Int), .int .i64 0]) (by simp[results,results154,go_sem]) rfl ?_;exact⟨by rw[<-HR.out,ax h0,ax h1];rfl,XD.out.1⟩
 . have l50:¬(50:Int)<=(l:Int):=by omega
   rw[ax Vh]at hR;have uB:=λW=>Yu (w0:=w0) (w:=W) (g:=g) (off:=off) (n:=n) (c:=c) (d:=d) (s:=s) (sw:=0) i j k ae ae ae hm ae
   have hx4:=nD d i j k 0 n ae ae ae;obtain⟨⟨i4,s4⟩,nI⟩:∃r,Sort.median Sort.ltInt d i j k 0=r:=⟨_,rfl⟩;simp only[nI]at uB hR hx4;have uQ:=ag uB;have HR:=ag hR;clear uB nI hR;go_enter func154,ntmps154
   go_upto_region 3 with(fail)
   go_upto_region 12 with(go_at_call 179;refine(uQ.out _ H0.out).mono ?_;rintro e w1 ⟨rfl,hN⟩;have XD:=ag hN;have cs:w1.cell? ⟨s,0,none⟩=some (.int .i64 (s4:Int)):=hN.2.1.cell 0;have jB:=hN.2.1.lt;clear hN)
   by_cases h0:s4=0
   . have h0i:(s4:Int)=0:=by omega
     go_wp2;refine bH (v:= .tuple #[.int .i64 (i4:Int), .int .i64 1]) (by simp[results,results154,go_sem]) rfl ?_;exact⟨by rw[<-HR.out,aA h0];rfl,XD.out.1⟩
   . by_cases h1:s4=12
     . have h0i:¬(s4:Int)=0:=by omega
       have h1i:(s4:Int)=12:=by omega
       go_wp2;refine bH (v:= .tuple #[.int .i64 (i4:Int), .int .i64 2]) (by simp[results,results154,go_sem]) rfl ?_;exact⟨by rw[<-HR.out,ax h0,aA h1];rfl,XD.out.1⟩
     . have h0i:¬(s4:Int)=0:=by omega
       have h1i:¬(s4:Int)=12:=by omega
       go_wp2;refine bH (v:= .tuple #[.int .i64 (i4:Int), .int .i64 0]) (by simp[results,results154,go_sem]) rfl ?_;exact⟨by rw[<-HR.out,ax h0,ax h1];rfl,XD.out.1⟩
end
def PiP(w:World)(g off n c:Nat)(r:Array Int×Bool)(e:Ending)(w':World):Prop:=e= .returned (.bool r.2)/\vY w g off n c r.1 w'
theorem rZ{lt:Int->Int->Bool}{d:Array Int}{a b:Nat}(h:b-a<50\/Sort.scanSorted lt d b (a+1)=b):Sort.partialInsertionSort lt d a b=(d,decide (Sort.scanSorted lt d b (a+1)=b)):=by
 unfold Sort.partialInsertionSort;rw[Sort.partialIns];by_cases he:Sort.scanSorted lt d b (a+1)=b
 . simp[he]
 . have:=h.resolve_right he
   simp[he,this]
theorem Kl{lt:Int->Int->Bool}{d:Array Int}{b k p:Nat}(hk:k<b)(hp:k-1=p)(h:lt d[k]! d[p]! =false):Sort.scanSorted lt d b k=Sort.scanSorted lt d b (k+1):=by
 rw[Sort.scanSorted,aA (by rw[hp,h];simpa using hk)]
theorem yF{lt:Int->Int->Bool}{d:Array Int}{b k p:Nat}(hp:k-1=p)(h:¬k<b\/lt d[k]! d[p]! =true):Sort.scanSorted lt d b k=k:=by
 rw[Sort.scanSorted,ax];rcases h with h|h
 . simp[h]
 . rw[hp,h];simp
theorem P_(w0 w:World)(g off n c a b:Nat)(d0:Array Int)(Br:a<b)(SN:b<=n)(hm:n<=1000000)(Vh:b-a<50\/Sort.scanSorted Sort.ltInt d0 b (a+1)=b)(hS:vY w0 g off n c d0 w):
 Calls Tryz.prog 156 #[.slice (some ⟨g,off,none⟩) n c, .int .i64 (a:Int), .int .i64 (b:Int)] w (PiP w0 g off n c (Sort.partialInsertionSort Sort.ltInt d0 a b)):=by
 rw[rZ Vh];have jc:=ag hS;obtain⟨D,hD⟩:=aH (Sort.scanSorted Sort.ltInt d0 b (a+1));rw[hD]at Vh |-;have HD:=ag hD;have e0:IntKind.i64.wrap ((a:Int)+1)=((a+1:Nat):Int):=by rw[b9 _ ae];omega
 have e9:IntKind.i64.wrap ((b:Int)-(a:Int))=(b:Int)-(a:Int):=by rw[b9 _ ae]
 clear hS hD;go_enter func156,ntmps156
 go_wp2;refine Cd 1 ?_;rw[rounds_succ];go_wp2;go_loopw [7,17,18,19,20,21,22,23,24,25,26,27,28,29,30,31,32,33,34] (λi _ _ _ _ _ _ _ _ _ _ _ _ _ _ _ _ _ _ wr=>∃(k:Nat),a<k/\k<=b/\i= .int .i64 (k:Int)/\vY w0 g off n c d0 wr/\Sort.scanSorted Sort.ltInt d0 b k=D) (λi _ _ _ _ _ _ _ _ _ _ _ _ _ _ _ _ _ _ _=>b-(intOf i).toNat)
 case atStart=>exact⟨a+1,by omega,by omega,by go_num,jc.out,HD.out⟩
 case round=>
  clear jc HD;obtain⟨k,SS,hk,rfl,hI,Lf⟩:=hrel;have HI:=ag hI;have LC:=ag Lf;have eh:=hI.lt;clear hI Lf;obtain⟨p,hp⟩:=aH (k-1);obtain⟨k1,iy⟩:∃x,k+1=x:=⟨_,rfl⟩;have e1:IntKind.i64.wrap ((k:Int)-1)=(p:Int):=by rw[b9 _ ae];omega
  have e2:IntKind.i64.wrap ((k:Int)+1)=(k1:Int):=by rw[b9 _ ae];omega
  have HK:=ag iy;have HP:=ag hp;by_cases aM:k<b
  . have Zz:decide ((k:Int)<(b:Int))=true:=kx ae
    have u0:=HI.out.word (i:=k) ae;have u1:=HI.out.word (i:=p) ae;obtain⟨y0,SA⟩:∃x,d0[k]! =x:=⟨_,rfl⟩;obtain⟨y1,WE⟩:∃x,d0[p]! =x:=⟨_,rfl⟩;rw[SA]at u0;rw[WE]at u1;have i0:(k:Int)<(n:Int):=by omega
    have i1:(p:Int)<(n:Int):=by omega
    have z0:(0:Int)<=(k:Int):=by omega
    have z1:(0:Int)<=(p:Int):=by omega
    have Xx:=ag SA;have HY1:=ag WE;clear SA WE hp iy;by_cases Eh:y0<y1
    . have Zw:decide (y0<y1)=true:=kx Eh
      have HE:=ag (yF (lt:=Sort.ltInt) (d:=d0) (b:=b) HP.out (.inr (by rw[Xx.out,HY1.out];exact kx Eh)));go_upto_region 5 with(fail)
      refine Dh krQ krQ ?_;repeat(go_big_quiet_step ((go_at_call 157;exact mE (zq _ _ _))))
      refine cE ?_;rintro _ ⟨nr,rfl⟩;have Vb:D=k:=LC.out.symm.trans HE.out;have aG:¬(k:Int)=(b:Int):=by omega
      have Ze_:((b:Int)-(a:Int))<50:=by
       rcases Vh with h|h
       . omega
       . omega
      go_wp2;refine bH (v:= .bool false) (by simp[results,results156,go_sem]) rfl ?_;exact⟨by rw[oX ae],HI.out.drewN nr⟩
    . have Zw:decide (y0<y1)=false:=oX Eh
      have HE:=ag (Kl (lt:=Sort.ltInt) (d:=d0) aM HP.out (by rw[Xx.out,HY1.out];exact oX Eh));go_upto_region 5 with(fail)
      refine Dh krQ krQ ?_;repeat(go_big_quiet_step ((go_at_call 157;exact mE (zq _ _ _))))
      refine cE ?_;rintro _ ⟨nr,rfl⟩;go_wp2;exact⟨⟨k1,by have:=HK.out;omega,by have:=HK.out;omega,rfl,HI.out.drewN nr,by rw[<-HK.out,<-HE.out];exact LC.out⟩,by have:=HK.out;simp[intOf]<;>omega⟩
  . obtain rfl:k=b:=by omega
    have Zz:decide ((k:Int)<(k:Int))=false:=oX ae;have HE:=ag (yF (lt:=Sort.ltInt) (d:=d0) (b:=k) HP.out (.inl ae));have Vb:D=k:=LC.out.symm.trans HE.out;clear hp iy;go_upto_region 5 with(fail)
    refine Dh krQ krQ ?_;repeat(go_big_quiet_step (fail))
    refine cE ?_;rintro _ ⟨nr,rfl⟩;go_wp2;refine bH (v:= .bool true) (by simp[results,results156,go_sem]) rfl ?_;exact⟨by rw[kx Vb],HI.out.drewN nr⟩
theorem YA{T:ByteArray}(n:Nat)(hn:n<T.size)(hT:T.data.toList.map UInt8.toNat=(List.range 256).map Sort.bitsLen):(T[n].toNat:Nat)=Sort.bitsLen n:=by
 have h1:(T.data.toList.map UInt8.toNat)[n]?=some (T[n].toNat):=by
  have:n<T.data.size:=hn;simp only[AX,Array.getElem?_toList,Array.getElem?_eq_getElem this,Option.map_some];rfl
 have h2:n<256:=by
  have:=bP List.length hT;simp at this;have h3:T.size=T.data.size:=rfl;omega
 rw[hT]at h1;simpa [h2]using h1.symm
theorem sk{n k:Nat}(h:n<2^k):Sort.bitsLen n<=k:=(Sort.bitsLen_le_iff n k).2 h
theorem Up(w:World)(n:Nat)(hm:n<256):Calls Tryz.prog 136 #[.int .u64 (n:Int)] w λe w'=>e= .returned (.int .i64 (Sort.bitsLen n:Nat))/\w=w':=by
 have e1:¬(4294967296:Int)<=(n:Int):=by omega
 have e2:¬(65536:Int)<=(n:Int):=by omega
 have e3:¬(256:Int)<=(n:Int):=by omega
 have e4:IntKind.u8.wrap (n:Int)=(n:Int):=by rw[IntKind.wrap_u8];omega
 have h8:Sort.bitsLen n<=8:=sk hm;go_enter func136,ntmps136
 go_wp2;go_ret;refine⟨bP (λz=>Ending.returned (.int .i64 z)) ((bP (λz:Nat=>wrap64 (wrap64 (z:Int))) (YA n _ krQ)).trans ?_),rfl⟩;have e5:wrap64 (Sort.bitsLen n:Int)=(Sort.bitsLen n:Int):=by unfold wrap64;omega
 show wrap64 (wrap64 (Sort.bitsLen n:Int))=_
 rw[e5,e5]
theorem Zbf(w:World)(n:Nat)(hm:n<256):Calls Tryz.prog 100 #[.int .u64 (n:Int)] w λe w'=>e= .returned (.int .i64 (Sort.bitsLen n:Nat))/\w=w':=by
 have HI:=ag (λw=>Up w n hm);have e1:IntKind.u64.wrap (n:Int)=(n:Int):=bY _ ae;go_enter func100,ntmps100
 go_wp2_with (go_at_call 136;refine(HI.out _).mono ?_;rintro e w' ⟨rfl,rfl⟩)
 go_ret;exact⟨rfl,rfl⟩
section
variable{d:Array Int}{a b n limit:Nat}{wb wp:Bool}
theorem pdq_small(h:b-a<=12):Sort.pdq Sort.ltInt d a b limit wb wp=Sort.insertionSort Sort.ltInt d a b:=by
 rw[Sort.pdq,aA h]
theorem XX:Sort.SWO Sort.ltInt:=⟨λx=>by simp[Sort.ltInt],λx y z=>by simp only[Sort.ltInt,sQ];omega,λx y z=>by simp only[Sort.ltInt,decide_eq_false_iff_not];omega⟩
theorem r_(hs:Sort.SortedIn Sort.ltInt a b d){i j s:Nat}(h1:a<=i)(h2:i<j)(h3:j<b):Sort.order2 Sort.ltInt d i j s=(i,j,s):=by
 unfold Sort.order2;rw[ax (by rw[hs i j h1 h2 h3];decide)]
theorem gJ(hs:Sort.SortedIn Sort.ltInt a b d){i j k s:Nat}(h1:a<=i)(h2:i<j)(h3:j<k)(h4:k<b):Sort.median Sort.ltInt d i j k s=(j,s):=by
 unfold Sort.median;simp only[r_ hs h1 h2 ae,r_ hs ae h3 h4]
theorem Dk(hs:Sort.SortedIn Sort.ltInt a b d)(h8:a+8<=b):(Sort.choosePivot Sort.ltInt d a b).2= .increasing:=by
 unfold Sort.choosePivot;obtain⟨l,hl⟩:=aH (b-a);obtain⟨q,hq⟩:=aH (l/4);simp only[hl,hq];rw[aA (show l≥8 by omega)];by_cases Vh:l≥50
 . have m1:=gJ hs (i:=a+q*1-1) (j:=a+q*1) (k:=a+q*1+1) (s:=0) ae ae ae ae
   have m2:=gJ hs (i:=a+q*2-1) (j:=a+q*2) (k:=a+q*2+1) (s:=0) ae ae ae ae;have m3:=gJ hs (i:=a+q*3-1) (j:=a+q*3) (k:=a+q*3+1) (s:=0) ae ae ae ae;have m4:=gJ hs (i:=a+q*1) (j:=a+q*2) (k:=a+q*3) (s:=0) ae ae ae ae;simp only[aA Vh,Sort.medianAdjacent,m1,m2,m3,m4];simp
 . have m4:=gJ hs (i:=a+q*1) (j:=a+q*2) (k:=a+q*3) (s:=0) ae ae ae ae
   simp only[ax Vh,m4];simp
theorem E8(hs:Sort.SortedIn Sort.ltInt a b d):∀(m k:Nat),b-k=m->a<k->k<=b->Sort.scanSorted Sort.ltInt d b k=b:=by
 intro m;induction m with
 |zero=>intro k h1 h2 h3;rw[yF rfl (.inl ae)];omega
 |succ m ih=>
  intro k h1 h2 h3;rw[Kl ae rfl (hs (k-1) k ae ae ae)];exact ih (k+1) ae ae ae
theorem Md(xs:List Int)(h:xs.Pairwise (· <= ·)):Sort.SortedIn Sort.ltInt 0 xs.length xs.toArray:=by
 intro i j _ xn hj;rw[A8]at h;have:=h i j ae hj xn;simp[Sort.ltInt,hj,show i<xs.length by omega];omega
end
theorem Yd(w0 w:World)(g off n c:Nat)(hm:n<=1000000)(d0:Array Int)(lim:Nat)(h1:1<=n)(ZeJ:1<=lim/\lim<=1000)(hs:n<=12\/Sort.SortedIn Sort.ltInt 0 n d0)(hS:vY w0 g off n c d0 w):
 Calls Tryz.prog 122 #[.slice (some ⟨g,off,none⟩) n c, .int .i64 0, .int .i64 (n:Int), .int .i64 (lim:Int)] w (SoP w0 g off n c (if n<=12 then Sort.insertionSort Sort.ltInt d0 0 n else d0)):=by
 have e1:IntKind.i64.wrap (n:Int)=(n:Int):=by rw[b9 _ ae]
 have vK:¬(lim:Int)=0:=by omega
 by_cases Vi:n<=12
 . have ZdB:(n:Int)<=12:=by omega
   have hC:=YF w0 w g off n c 0 n d0 ae (a_ _) hm hS;rw[aA Vi];have HC:=ag hC;clear hS hC hs;go_enter func122,ntmps122
   go_wp2;refine Cd 1 ?_;rw[rounds_succ];go_wp2_with (go_at_call 151;refine HC.out.mono ?_;rintro e w' ⟨rfl,hN⟩)
   exact bH (v:= .tuple #[]) (by simp[results,results122,go_sem]) rfl ⟨rfl,hN⟩
 . have ZdB:¬(n:Int)<=12:=by omega
   rw[ax Vi];have hs:=hs.resolve_left Vi;have hsc:=E8 hs _ 1 rfl ae ae;have HC:=ag (Yb (w0:=w0) (w:=w) (g:=g) (off:=off) (n:=n) (c:=c) (d:=d0) 0 n ae (a_ _) hm hS);have nQ:=Dk hs ae;obtain⟨⟨pv,hi⟩,hr⟩:∃z,Sort.choosePivot Sort.ltInt d0 0 n=z:=⟨_,rfl⟩;rw[hr]at HC nQ;obtain rfl:hi= .increasing:=nQ;have hq:WV Sort.Hint.increasing=1:=rfl;have HP:=ag (λW (h:vY w0 g off n c d0 W)=>P_ w0 W g off n c 0 n d0 ae (a_ _) hm (.inr hsc) h);rw[rZ (.inr hsc),kx hsc]at HP;clear hS hr hsc;go_enter func122,ntmps122
   go_wp2;refine Cd 1 ?_;rw[rounds_succ];go_wp2_with (first|(go_at_call 154;refine HC.out.mono ?_;rintro e w' ⟨rfl,hN⟩;have HN:=ag hN;clear hN)|(go_at_call 156;refine(HP.out _ HN.out).mono ?_;rintro e w2 ⟨rfl,hN⟩;have Aw:=ag hN;clear hN))
   exact bH (v:= .tuple #[]) (by simp[results,results122,go_sem]) rfl ⟨rfl,Aw.out⟩
theorem TV(w0 w:World)(g off n c:Nat)(d0:Array Int)(h1:1<=n)(hm:n<256)(hv:n<=12\/Sort.SortedIn Sort.ltInt 0 n d0)(hS:vY w0 g off n c d0 w):
 Calls Tryz.prog 84 #[.slice (some ⟨g,off,none⟩) n c] w (SoP w0 g off n c (Sort.sort Sort.ltInt d0)):=by
 have lR:=hS.2.1;have HL:=ag (λw=>Zbf w n hm);have h8:Sort.bitsLen n<=8:=sk hm
 have h0:1<=Sort.bitsLen n:=by
  rcases Nat.eq_zero_or_pos (Sort.bitsLen n)with h|h
  . have:=Sort.lt_two_pow_bitsLen n;rw[h]at this;omega
  . exact h
 have HC:Hid (Calls Tryz.prog 122 #[.slice (some ⟨g,off,none⟩) n c, .int .i64 0, .int .i64 (n:Int), .int .i64 (Sort.bitsLen n:Nat)] w (SoP w0 g off n c (Sort.sort Sort.ltInt d0))):=by
  show Calls _ _ _ _ _
  have hP:=Yd w0 w g off n c ae d0 (Sort.bitsLen n) h1 ⟨h0,by omega⟩ hv hS;by_cases Vi:n<=12
  . rw[aA Vi]at hP
    unfold Sort.sort;rw[lR,pdq_small ae];exact hP
  . have hv:=hv.resolve_left Vi
    rw[ax Vi]at hP;have FV:=Sort.sort_sorts Sort.ltInt XX d0
    have sg:Sort.sort Sort.ltInt d0=d0:=by
     have hx:=Sort.sortInt d0.toList
     have hp:d0.toList.Pairwise (· <= ·):=by
      rw[A8];intro i j hi hj xn;have Jl:i<d0.size:=by simpa using hi
      have iz:j<d0.size:=by simpa using hj
      have:=hv i j (im _) xn ae;rw[getElem!_pos d0 i Jl,getElem!_pos d0 j iz]at this;simp[Sort.ltInt]at this;simpa using this
     rw[List.mergeSort_of_pairwise (by simpa using hp),Array.toArray_toList]at hx;exact Array.toList_inj.1 hx
    rw[sg];exact hP
 obtain⟨k,hk⟩:=aH (Sort.bitsLen n);rw[hk]at HL HC;have hw:IntKind.u64.wrap (n:Int)=(n:Int):=bY _ ae;clear hS hk hv;go_enter func84,ntmps84
 go_wp2_with (first|(go_at_call 100;refine(HL.out _).mono ?_;rintro e w' ⟨rfl,rfl⟩)|(go_at_call 122;refine HC.out.mono ?_;rintro e w' ⟨rfl,hN⟩;have HN:=ag hN;clear hN))
 go_end0
 exact⟨rfl,HN.out⟩
def SrQ(w:World)(g off n c:Nat)(xs:List Int)(e:Ending)(w':World):Prop:=e= .returned (.tuple #[])/\Sl 22 1 w' (some ⟨g,off,none⟩) n c (bE (oU xs))/\Ch (At g) w w'/\RP w' g=RP w g
theorem Mf(w:World)(g off n c:Nat)(xs:List Int)(hn:xs.length=n)(h1:1<=n)(hm:n<256)(hv:n<=12\/xs.Pairwise (· <= ·))(hS:Sl 22 1 w (some ⟨g,off,none⟩) n c (bE xs)):
 Calls Tryz.prog 84 #[.slice (some ⟨g,off,none⟩) n c] w (SrQ w g off n c xs):=by
 refine(TV w w g off n c xs.toArray h1 hm (hv.imp_right (λh=>by rw[<-hn];exact Md xs h)) ⟨by simpa using hS,by simpa using hn,Ch.refl _ _,rfl⟩).mono ?_;rintro e w' ⟨rfl,h1,h2,h3,h4⟩;refine⟨rfl,?_,h3,h4⟩;have:=Sort.sortInt xs;rw[this]at h1;exact h1
theorem QA{w:World}{g n:Nat}{xs:List Int}(h:Sl 22 1 w (some ⟨g,0,none⟩) n n (bE xs))(hz:RP w g=n):IB .u64 22 w g xs:=by
 have hl:=h.1;rcases h.2 with⟨hx,_⟩|⟨g',o',cur,hA,hC,_,_,vM,ht⟩
 . cases hx
 . cases hA
   rw[D6 hC]at hz
   have e:cur=ia .u64 xs:=by
    apply Array.toList_inj.1
    rw[<-fR (l:=cur.toList) (i:=n*1) (by simp;omega)];simpa [ia,bE]using ht
   show w.heap[g]?=_
   rw[<-e];exact hC
theorem lz(w:World)(A:Option Addr)(n c:Nat)(ws:List (Int×Int))(hn:ws.length=n)(h1:1<=n)(hm:n<256)(hS:Sl 95 2 w A n c (az ws))(hr:∀p∈ws,0<=p.1/\p.1<18446744073709551616)(hs:n<=12\/(starts ws).Pairwise (· <= ·)):
 Calls Tryz.prog 56 #[.slice A n c] w (jO w (bN ws)):=by
 have HN:=ag hn;have HS:=ag hS;have HR:=ag hr;have HSo:=ag hs;have e0:((n:Int)==0)=false:=by simp;omega
 have zE:∀W:World,(Instr.makeSlice 96 (.int .i64 0) (.int .i64 (n:Int))).run Tryz.prog W= .ok (.slice (some ⟨W.heap.size,0,none⟩) 0 n) (W.alloc (.cells (ia .u64 (List.replicate n 0)) 22)):=rX 96 22 n underlying96 iO ae;clear hn hS hr hs;go_enter func56,ntmps56
 go_wp2
 have jc:Hid (qH w w.heap.size n ws 0 none 0 (w.alloc (.cells (ia .u64 (List.replicate n 0)) 22))):=by
  refine⟨Sl.nil,?_,ai (bZ _ _) _,by simp[ah]⟩;have:kK ws n 0=List.replicate n 0:=by simp[kK,starts]
  rw[this];exact IB.new _ _
 obtain⟨g,hg⟩:=aH w.heap.size;obtain⟨W,hW⟩:=aH (w.alloc (.cells (ia .u64 (List.replicate n 0)) 22));have R_:Hid (qH w g n ws 0 none 0 W):=by show qH _ _ _ _ _ _ _ _;rw[<-hg,<-hW];exact jc.out
 have vL:w.heap.size<=g:=by omega
 rw[hg,hW];clear zE hg hW jc;go_loopw [17,3,4,6,18,19,20,21,22,23,24,25,26,27,28,29,30,31,32,33,34,35] (λi p l _ _ _ _ _ _ _ _ _ _ _ _ _ _ _ _ _ _ _ wr=>∃(k:Nat) (A':Option Addr) (c':Nat),k<=n/\i= .int .i64 k/\p= .slice A' k c'/\l= .slice (some ⟨g,0,none⟩) k n/\qH w g n ws k A' c' wr) (λi p l _ _ _ _ _ _ _ _ _ _ _ _ _ _ _ _ _ _ _ _=>n-(intOf i).toNat)
 case atStart=>exact⟨0,none,0,by omega,rfl,rfl,rfl,R_.out⟩
 case round=>
  clear R_;obtain⟨k,A',c',hk,rfl,rfl,rfl,hP,hI,hB,hO⟩:=hrel;have HP:=ag hP;have HI:=ag hI;have HB:=ag hB;have HO:=ag hO;by_cases aM:k<n
  . have kG:k<ws.length:=by rw[HN.out];exact aM
    obtain⟨gw,ow,hA,hl,c1,c2⟩:=(HS.out.keep (λb hb=>hB.block b (HS.out.lt hb))).wr kG;obtain⟨⟨of,v⟩,hp⟩:∃p,ws[k]=p:=⟨_,rfl⟩;have Ei:=HR.out _ (fq kG);rw[hp]at c1 c2 Ei;have VW:=ag hp;have QL:0<=of/\of<18446744073709551616:=Ei;have J0:=ag QL;subst hA;rw[show 2*k=k*2 by omega]at c1 c2;have hgn:¬gw=wr.heap.size:=by omega
    have ie:=hI.lt;clear hP hI hB hO hp Ei QL;go_wp2_with (at_builtin;refine ay rfl (.tmp 21) (.tmp 27) 133 rfl 164 (.agg #[.int .u8 0, .int .u64 0, .int .u64 0]) 3 24 rfl ae underlying133 jr ae A' k c' (bw (cT (ws.take k))) ⟨wr.heap.size+1,0,none⟩ 1 1 [.int .u8 1, .int .u64 of, .int .u64 v] rfl rfl (HP.out.keep (λb hb=>((ai (ai (bZ _ _) _) _:Below wr.heap.size wr _).block b (HP.out.lt hb)))) rfl ae (by have:=dE (wr.alloc (.cells #[.int .u64 of, .int .u64 v] 95)) 164 (.int .u8 1) (.int .u64 of) (.int .u64 v);simpa using this) (q_ _ _ _) ae ?_;intro A2 Lv w2 w_ dh JW mV;have lR:wr.heap.size+2<=w2.heap.size:=(by have:=dh.out.size;simpa using this);have js:∀b,wr.heap.size<=b->¬ah A' b:=(λb hb ho=>by have:=HP.out.lt ho;omega);have m0:w2.cell? ⟨wr.heap.size,0,none⟩=some (.int .u64 of):=((dh.out.cells _ _ (by simp;omega) (js _ (a_ _))).trans (by go_simp));have CV:Hid (IB .u64 22 w2 g (kK ws n k)):=(((HI.out.alloc _).alloc _).ch dh.out (λho=>(HO.out g ho).2 rfl));have m1:wr.heap.size<w2.heap.size:=ae;clear js)
    go_wp2_with (first|(go_at_call 83;refine(FD _ of J0.out).mono ?_;rintro e w' ⟨rfl,rfl⟩)|(at_builtin;refine mX rfl (.tmp 29) (.tmp 33) 96 rfl 22 underlying96 iO g k n ⟨w2.heap.size,0,none⟩ 1 (cG of) (kK ws n k) rfl rfl (CV.out.alloc _) aM (by rw[ur ws n k HN.out hk];exact a_ _) (by simp[go_sem]) ?_))
    refine⟨⟨k+1,A2,Lv,by omega,by go_num,rfl,rfl,?_,?_,?_,?_⟩,by simp[intOf];omega⟩
    . have hx:=w_.out
      have e1:bw (cT (ws.take (k+1)))=bw (cT (ws.take k))++[.int .u8 1, .int .u64 of, .int .u64 v]:=by
       rw[iw kG,VW.out,cT,yL,fi];rfl
      rw[e1];refine hx.keep (λb hb=> ?_);have xN:=hx.lt hb
      have Hf:b≠g:=by
       rcases JW.out b hb with h|h
       . exact(HO.out b h).2
       . rw[h];simp;omega
      rw[ft _ _ _ _ Hf,d_ _ _ _ xN]
    . have:=(CV.out.alloc (.cells #[.int .u64 (cG of)] 22)).set k (cG of)
      rw[<-Cy ws n k HN.out aM,VW.out];exact this
    . refine gZ (ai (bM (ai (ai HB.out _) _) dh.out (λb hb=>(HO.out b hb).1)) _) vL _
    . intro b hb
      rcases JW.out b hb with h|h
      . exact HO.out b h
      . have:=HB.out.size
        rw[h];simp;omega
  . obtain rfl:k=n:=by omega
    have SV:IB .u64 22 wr g (starts ws):=by rw[<-Cz ws k HN.out];exact hI
    have hP':Sl 164 3 wr A' k c' (bw (cT ws)):=by rw[fR (by rw[HN.out];omega)]at hP;exact hP
    have oK:(starts ws).length=k:=by simp[starts,HN.out]
    have JY:=ag (Mf wr g 0 k k (starts ws) oK h1 hm HSo.out (by have:=SV.sl (by rw[oK];unfold maxLen;omega);rwa[oK]at this));have Bo:RP wr g=k:=by rw[D6 SV];simp[ia,oK]
    have HBZ:=ag Bo;have Sg:=ag (λW (hI:IB .u64 22 W g (oU (starts ws)))=>Gs W g k (oU (starts ws)) (by rw[pN];exact oK) h1 ae hI);clear Bo;have XC:=ag hP';clear hP hI hB hO SV hP' HP HI oK;go_wp2_with (first|(go_at_call 84;refine JY.out.mono ?_;rintro e wS ⟨rfl,vN,hSc,hSz⟩;have xt:=ag vN;have HSC:=ag hSc;have S7:=ag hSz;clear vN hSc hSz)|(go_at_call 85;refine(Sg.out wS (QA xt.out (S7.out.trans HBZ.out))).mono ?_;rintro e w3 ⟨zs,rfl,hZ,hzt,o7⟩;have HZ:=ag hZ;have VP:=ag hzt;have fo:=ag o7;clear hZ hzt o7))
    have CV:Hid (xZ w g k ws zs (kj (oU (starts ws))) 0 A' c' w3):=by
     refine⟨?_,HZ.out,bM (bM HB.out HSC.out (λb hb=>by rw[show b=g from hb];exact vL)) fo.out (λb hb=>by rw[show b=g from hb];exact vL),HO.out⟩;have h1:=(XC.out.keep (w':=wS) (λb hb=>HSC.out.block b (XC.out.lt hb) (λh=>(HO.out b hb).2 h))).keep (w':=w3) (λb hb=>fo.out.block b (cD (XC.out.lt hb) HSC.out.size) (λh=>(HO.out b hb).2 h));simpa [eC]using h1
    have hzl:(kj (oU (starts ws))).length<=k:=by have:=Aa (oU (starts ws));rw[pN]at this;simp[starts]at this;rw[HN.out]at this;exact this
    obtain⟨cs,hcs⟩:=aH (kj (oU (starts ws)));obtain⟨q,hq⟩:=aH cs.length;have Ax:=ag hcs;have HQ:=ag hq;rw[hcs]at CV VP hzl |-;rw[hq]at VP hzl |-;clear hcs hq JY Sg HZ fo HB HO XC;go_loopw [41,3,8,42,43,44,45,46,47,48,49,50] (λi p _ _ _ _ _ _ _ _ _ _ wr=>∃(j:Nat) (A':Option Addr) (c':Nat),j<=q/\i= .int .i64 j/\p= .slice A' (k+j) c'/\xZ w g k ws zs cs j A' c' wr) (λi _ _ _ _ _ _ _ _ _ _ _ _=>q-(intOf i).toNat)
    case atStart=>exact⟨0,_,_,by omega,rfl,rfl,CV.out⟩
    case round=>
     clear CV;obtain⟨j,A1,c1,hj,rfl,rfl,hP,hI,hB,hO⟩:=hrel;have HP:=ag hP;have HI:=ag hI;have HB:=ag hB;have HO:=ag hO;have ie:=hI.lt;by_cases mT:j<q
     . have oZ:j<cs.length:=by rw[HQ.out];exact mT
       obtain⟨l,hl⟩:=aH (cs[j]);have ZcB:q<=zs.length:=by have:=bP List.length VP.out;rw[gf,HQ.out]at this;omega
       have hzj:zs[j]'(by omega)=l:=by
        have h1:(zs.take q)[j]'(by rw[gf];omega)=l:=by
         have h2:=VP.out;simp only[h2];exact hl
        rwa[PG]at h1
       have cj:wr.cell? ⟨g,j,none⟩=some (.int .u64 l):=by rw[hI.cell ae,hzj]
       have HL:=ag hl;have El:j<k:=by omega
       clear hP hI hB hO hl hzj;go_wp2_with (at_builtin;refine ay rfl (.tmp 45) (.tmp 48) 133 rfl 164 (.agg #[.int .u8 0, .int .u64 0, .int .u64 0]) 3 24 rfl ae underlying133 jr ae A1 (k+j) c1 (bw (cT ws++eC (cs.take j))) ⟨wr.heap.size,0,none⟩ 1 1 [.int .u8 2, .int .u64 l, .int .u64 0] rfl rfl (HP.out.keep (λb hb=>d_ _ _ _ (HP.out.lt hb))) rfl ae (dE wr 164 _ _ _) (q_ _ _ _) ae ?_;intro A2 Lv w2 w_ dh JW mV)
       refine⟨⟨j+1,A2,Lv,by omega,by go_num,rfl,?_,?_,?_,?_⟩,by simp[intOf];omega⟩
       . have e1:bw (cT ws++eC (cs.take (j+1)))=bw (cT ws++eC (cs.take j))++[.int .u8 2, .int .u64 l, .int .u64 0]:=by
          rw[iw oZ,HL.out,eC,yL,<-iZ,fi];rfl
         rw[e1];exact w_.out
       . exact(HI.out.alloc _).ch dh.out (λho=>(HO.out g ho).2 rfl)
       . exact bM (ai HB.out _) dh.out (λb hb=>(HO.out b hb).1)
       . intro b hb
         have:=HB.out.size;rcases JW.out b hb with h|h
         . exact HO.out b h
         . rw[h];simp;omega
     . obtain rfl:j=q:=by omega
       clear hP hI hB hO;go_wp2_with (at_builtin;refine ay rfl (.tmp 51) (.tmp 53) 133 rfl 164 (.agg #[.int .u8 0, .int .u64 0, .int .u64 0]) 3 24 rfl ae underlying133 jr ae A1 (k+j) c1 (bw (cT ws++eC (cs.take j))) ⟨wr.heap.size,0,none⟩ 1 1 [.int .u8 3, .int .u64 0, .int .u64 0] rfl rfl (HP.out.keep (λb hb=>d_ _ _ _ (HP.out.lt hb))) rfl ae (dE wr 164 _ _ _) (q_ _ _ _) ae ?_;intro A2 Lv w2 w_ dh JW mV)
       go_ret
       have hE:bN ws=cT ws++eC (cs.take j)++[(3,0,0)]:=by
        rw[bN,Ax.out,fR (by rw[HQ.out];exact a_ _)]
       have hlen:(bN ws).length=k+j+1:=by
        rw[hE];simp[cT,eC,HN.out,HQ.out];omega
       refine⟨A2,Lv,?_,?_,?_,?_⟩
       . rw[hlen];rfl
       . rw[hlen,hE,fi];exact w_.out
       . exact bM (ai HB.out _) dh.out (λb hb=>(HO.out b hb).1)
       . intro b hb
         have:=HB.out.size;rcases JW.out b hb with h|h
         . exact(HO.out b h).1
         . rw[h];simp;omega
structure GV(w1:World)(o:aX)(k:Nat)(A1:Option Addr)(c1:Nat)(A2:Option Addr)(c2:Nat)(wr:World):Prop where
 wd:Sl 22 1 wr A1 (3*k) c1 (bE (uG aR (o.es.take k) (o.seen.take k)))
 ch:Sl 95 2 wr A2 k c2 (az (oD (o.es.take k) (o.seen.take k)))
 bl:Below w1.heap.size w1 wr
 o1:∀b,ah A1 b->w1.heap.size<=b
 o2:∀b,ah A2 b->w1.heap.size<=b
 dj:∀b,ah A1 b->¬ah A2 b
structure Xr(w1:World)(rs:List (Int×Int))(j:Nat)(A:Option Addr)(c:Nat)(wr:World):Prop where
 sl:Sl 95 2 wr A j c (az (rs.take j))
 bl:Below w1.heap.size w1 wr
 ow:∀b,ah A b->w1.heap.size<=b
def Mx(e:bO):Int:=if e.ex then e.off+1 else e.off
theorem GV.next{w1 wr w3 w4:World}{o:aX}{k:Nat}{A1 A2 A3 A4:Option Addr}{c1 c2 c3 c4:Nat}(h:GV w1 o k A1 c1 A2 c2 wr)(hk:k<o.es.length)(jC:k<o.seen.length){wy wz:World}
 (hy:Below wr.heap.size wr wy) (hz:Below w3.heap.size w3 wz) (o7:Ch (ah A1) wy w3) (Gg:Ch (ah A2) wz w4) (Ep:∀b,ah A3 b->ah A1 b\/b=wy.heap.size) (M8:∀b,ah A4 b->ah A2 b\/b=wz.heap.size)
 (h3:Sl 22 1 w3 A3 (3*k+3) c3 (bE (uG aR (o.es.take k) (o.seen.take k))++[.int .u64 (Mx o.es[k]), .int .u64 o.es[k].old, .int .u64 (o.es[k].after o.seen[k])]))
 (h4:Sl 95 2 w4 A4 (k+1) c4 (az (oD (o.es.take k) (o.seen.take k))++[.int .u64 o.es[k].off, .int .u64 (o.es[k].after o.seen[k])])):GV w1 o (k+1) A3 c3 A4 c4 w4:=by
 have s1:=h.bl.size;have s2:=hy.size;have s3:=o7.size;have s4:=hz.size;have s5:=Gg.size;have Eg:∀b,ah A3 b->b<w3.heap.size:=λb hb=>h3.lt hb
 have l1:∀b,ah A1 b->b<wr.heap.size:=λb hb=>h.wd.lt hb
 have l2:∀b,ah A2 b->b<wr.heap.size:=λb hb=>h.ch.lt hb
 refine⟨?_,?_,?_,λb hb=> ?_,λb hb=> ?_,λb hb kH=> ?_⟩
 . rw[Nk aR _ _ hk jC,LV]
   refine Sl.ch (S:=ah A2) ((h3.keep (w':=wz) (λb hb=>hz.block b (Eg b hb)))) Gg (λb hb dy=> ?_);rcases Ep b hb with h5|h5
   . exact h.dj b h5 dy
   . have:=l2 b dy;omega
 . rw[Nw _ _ hk jC,jS];exact h4
 . refine(h.bl.trans (hy.mono s1)).trans (((o7.tP (B:=w1.heap.size) ae (λb hb=>h.o1 b hb)).trans (hz.mono ae)).trans (Gg.tP (B:=w1.heap.size) ae (λb hb=>h.o2 b hb)))
 . rcases Ep b hb with h5|h5
   . exact h.o1 b h5
   . omega
 . rcases M8 b hb with h5|h5
   . exact h.o2 b h5
   . omega
 . rcases Ep b hb with h5|h5
   . rcases M8 b kH with h6|h6
     . exact h.dj b h5 h6
     . have:=l1 b h5;omega
   . rcases M8 b kH with h6|h6
     . have:=l2 b h6;omega
     . have:=Eg b hb;omega
theorem pB(w:World)(a b:Int):Sl 95 2 (w.alloc (.cells #[.int .u64 a, .int .u64 b] 95)) (some ⟨w.heap.size,0,none⟩) 1 1 (az [(a,b)]):=
 ⟨rfl, .inr ⟨w.heap.size,0,_,rfl,CB.new w _ _,by omega,by unfold maxLen;omega,by simp,rfl⟩⟩
theorem E6(q0:Int)(xs:List Int)(h:0<=q0):(starts (lL q0 xs)).Pairwise (· <= ·):=by
 rw[A8];intro i j hi hj xn;simp only[starts,lL,vo,List.getElem_zipIdx];unfold cG;omega
theorem Ni{o:aX}{cnt n:Nat}{M:Nat->Prop}(h:eU cnt n M o)(hn:n<100000):Fits (uG aR o.es o.seen):=by
 intro x hx;unfold uG at hx;rw[Fj]at hx;obtain⟨⟨e,v⟩,hev,hx⟩:=hx;have he:=h.vS e (List.of_mem_zip hev).1;obtain⟨k,_,hk,mL⟩:=he.wd;have h1:=he.old;have h2:=bO.qF e v he.new;simp only[dr,fH,gF]at hx;rcases hx with hx|hx|hx
 . have G2:x=if e.ex then e.off+1 else e.off:=hx
   rw[G2,mL];split<;>omega
 . have G2:x=e.old:=hx
   omega
 . have G2:x=e.after v:=hx
   omega
theorem ub{K:Nat->Prop}{p d a line lines:Nat}{t:Nat->Nat}{size:Int}{w:World}{σ:PwS}{o:aX}{cnt n:Nat}{M:Nat->Prop}(H:bB K p d t line lines size w σ)(tC:K 0)(hT:Tab w)(ha:σ.ops a=some o)(bF:eU cnt n M o)(hn:n<100000)(hl:line+4*o.k<100000)
 (Bp:3*o.es.length<=18) (s:Nat) (hs:1<=s/\s<=5):
 Calls Tryz.prog 139 #[.pointer (some ⟨a,0,none⟩), .int .i64 (s:Int)] w λr w'=>r= .returned (.tuple #[])/\bB K p d t line lines size w' (σ.enter aR (cP line) a o s)/\Ch (λb=>¬K b) w w':=by
 obtain⟨role,bb,h,hK⟩:=H;have hO:=h.op a o ha;have HP:=ag h;have HK:=ag hK;have Ho:=ag bF;obtain⟨ea,ec,oa,oc,sb,sc,pa,pc,h1,h2,h3,h4,zN,h5,r1,r2,n1,r3,r4,r5⟩:=hO;have Sa:=ag h2;have pk:=ag h4;have oK:=bF.sl;have jB:=bF.l1;have LG:Hid (∀b,ah ea b->b≠a):=λb hb=>(r3 b hb).2.1
 obtain⟨m,hm⟩:=aH o.es.length;have HM:=ag hm;have xt:Hid (o.seen.length=m):=by show _=_;omega
 have xa:a<w.heap.size:=h1.lt;have HLs:sb<w.heap.size:=h4.lt;have Ew:p<w.heap.size:=h.pl.lt;have tu:¬p=a:=λhe=>by have:=h.rp;rw[he,r1]at this;omega
 have c0:=h1.h_.c0;have c2:=h1.h_.c2;have c3:=h1.h_.c3;have c5:=h1.h_.c5;have c7:=h1.h_.c7;have c8:=h1.h_.c8;have f7:=h1.frozen 7;have f8:=h1.frozen 8;have p1:w.cell? ⟨p,1,none⟩=some (.int .i64 line):=h.pl.cell 1;have p2:w.cell? ⟨p,2,none⟩=some (.int .i64 lines):=h.pl.cell 2;have p3:w.cell? ⟨p,3,none⟩=some (.int .u64 size):=h.pl.cell 3;have NQ:Hid (∀W,Calls Tryz.prog 55 #[.agg #[.int .i64 (line:Int), .int .i64 (lines:Int), .int .u64 size], .int .i64 (o.k:Int)] W λe w'=>e= .returned (.int .u64 (cP line o.k))/\Below W.heap.size W w'):=λW=>T7 W line lines size o.k hl
 have HH1:=ag h1;have S8:=ag (λ(w2:World) (hB:Below (w.setCell ⟨a,7,none⟩ (.int .i64 s)).heap.size (w.setCell ⟨a,7,none⟩ (.int .i64 s)) w2) (A:Option Addr) (ps:List Ins) (c:Nat) (hS:Sl 164 3 w2 A ps.length c (bw ps)) (hA:∀b,ah A b->w.heap.size<=b)=>bB.Ro h hK ha s hB A ps c hS hA);have LF:=ag (bB.O7 h hK ha s);have S1:Hid (Tab (w.setCell ⟨a,7,none⟩ (.int .i64 s))):=hT.ch ((Ch.refl (At a) w).bj 7 _) (λhe=>by have he:0=a:=he;have:=(hK 0 tC).1;rw[he,r1]at this;omega);have Zdt:∃q:Nat,cP line o.k=(q:Int)/\q<100000000:=⟨8*(8*(line+4*o.k)),by unfold cP;omega,by omega⟩;obtain⟨q0,hq0,Zew⟩:=Zdt;have HQ0:=ag hq0;rw[hq0]at NQ;have x8:=ag hl;rw[hm]at c3 Bp jB;rw[oK,hm]at c5;clear h hK bF h1 h2 h3 h4 zN h5 r1 r2 n1 r3 r4 r5 oK hm hT hq0 hl;go_enter func139,ntmps139
 go_wp2;obtain⟨w1,xJ⟩:=aH (w.setCell ⟨a,7,none⟩ (.int .i64 s));have vI:w1.heap.size=w.heap.size:=by rw[<-xJ];simp
 have iA:Ch (At a) w w1:=by rw[<-xJ];exact(Ch.refl _ _).bj 7 _
 have tB:CB w1 a 187 (ei p t {o with aa:=s} ea ec oa oc sb sc pa pc):=by rw[<-xJ];exact HH1.out.set 7 _
 have d0:w1.cell? ⟨a,0,none⟩=some (.pointer (some ⟨p,0,none⟩)):=tB.h_.c0;have d2:w1.cell? ⟨a,2,none⟩=some (.int .i64 o.k):=tB.h_.c2;have d3:w1.cell? ⟨a,3,none⟩=some (.slice ea m ec):=by have:=tB.h_.c3;dsimp only at this;rwa[HM.out]at this
 have d5:w1.cell? ⟨a,5,none⟩=some (.slice (some ⟨sb,0,none⟩) m sc):=by have:=tB.h_.c5;dsimp only at this;rwa[xt.out]at this
 have d8:w1.cell? ⟨a,8,none⟩=some (.slice pa o.prog.length pc):=tB.h_.c8;have g8:w1.frozen? ⟨a,8,none⟩=false:=tB.frozen 8;clear tB;have q1:w1.cell? ⟨p,1,none⟩=some (.int .i64 line):=(iA.cells p 1 Ew tu).trans p1;have q2:w1.cell? ⟨p,2,none⟩=some (.int .i64 lines):=(iA.cells p 2 Ew tu).trans p2;have q3:w1.cell? ⟨p,3,none⟩=some (.int .u64 size):=(iA.cells p 3 Ew tu).trans p3;have MR:a<w1.heap.size:=by omega
 have Zh:p<w1.heap.size:=by omega
 have Zg:sb<w1.heap.size:=by omega
 have Zcb:Hid (Sl 223 4 w1 ea o.es.length ec (ba o.es)):=Sa.out.ch iA (λb hb jg=>LG.out b hb jg)
 have ZdP:Hid (IB .u64 22 w1 sb o.seen):=by
  refine pk.out.ch iA (λhe=> ?_);have he:sb=a:=he;obtain⟨_,_,_,_,_,_,_,_,_,_,_,_,_,_,r1,r2,n1,_⟩:=HP.out.op a o ha;have hx:=HH1.out;have hy:=pk.out;unfold CB at hx;unfold IB at hy;rw[he,hx]at hy;injection hy with hy;injection hy with WE hy2;exact absurd hy2 (by decide)
 rw[xJ]at S8 LF S1;rw[xJ];have VR:=ag vI;clear vI xJ c0 c2 c3 c5 c7 c8 f7 f8 p1 p2 p3 pk Sa LG xa HLs Ew tu;go_upto_region 1 with(fail)
 refine cy krQ krQ ?_;repeat(go_big_quiet_step ((go_at_call 55;exact bK (NQ.out _))))
 refine cE ?_;rintro _ ⟨x,rfl⟩;have HX:Hid (GV w1 o 0 none 0 none 0 x.w):=⟨Sl.nil,Sl.nil,x.below,by simp[ah],by simp[ah],by simp[ah]⟩;have x3:x.w.cell? ⟨a,3,none⟩=some (.slice ea m ec):=by go_simp
 obtain⟨W0,nR⟩:=aH x.w;rw[nR]at x3 HX;rw[nR];clear nR;go_wp2;go_loopw [34,5,7,8,9,10,35,36,37,38,39,40,41,42,43,44,45,46,47,48,49,50,51,52,53,54,55,56,57,58,59,60,61,62,63,64,65,66,67,68,69,70,71,72,73,74,75] (λi wd ch _ _ _ _ _ _ _ _ _ _ _ _ _ _ _ _ _ _ _ _ _ _ _ _ _ _ _ _ _ _ _ _ _ _ _ _ _ _ _ _ _ _ _ _ wr=>∃(k:Nat) (A1:Option Addr) (c1:Nat) (A2:Option Addr) (c2:Nat),k<=m/\i= .int .i64 k/\wd= .slice A1 (3*k) c1/\ch= .slice A2 k c2/\GV w1 o k A1 c1 A2 c2 wr) (λi _ _ _ _ _ _ _ _ _ _ _ _ _ _ _ _ _ _ _ _ _ _ _ _ _ _ _ _ _ _ _ _ _ _ _ _ _ _ _ _ _ _ _ _ _ _ _=>m-(intOf i).toNat)
 case atStart=>exact⟨0,none,0,none,0,by omega,rfl,rfl,rfl,HX.out⟩
 case round=>
  clear HX x3;obtain⟨k,A1,c1,A2,c2,hk,rfl,rfl,rfl,hI⟩:=hrel;have HI:=ag hI;clear hI;by_cases aM:k<m
  . have QR:k<o.es.length:=by rw[HM.out];exact aM
    have UQ:k<o.seen.length:=by rw[xt.out];exact aM
    have HKE:=ag QR;have AK:=ag UQ;have ZcE:=HI.out.bl.size;have e5:wr.cell? ⟨a,5,none⟩=some (.slice (some ⟨sb,0,none⟩) m sc):=(HI.out.bl.cell (p:=⟨a,5,none⟩) MR).trans d5;have es:wr.cell? ⟨sb,k,none⟩=some (.int .u64 (o.seen[k]'UQ)):=(HI.out.bl.cell (p:=⟨sb,k,none⟩) Zg).trans (ZdP.out.cell UQ);obtain⟨g,off,fL,eh,t1,t2,t3,t4⟩:=(Zcb.out.keep (λb hb=>HI.out.bl.block b (Zcb.out.lt hb))).vS QR;obtain⟨kw,_,NW,mL⟩:=(Ho.out.vS _ (fq QR)).wd;have kO:=(Ho.out.vS _ (fq QR)).new;have hold:=(Ho.out.vS _ (fq QR)).old;have hsr:=Ho.out.sr k;rw[Jv UQ]at hsr;obtain⟨e,he⟩:=aH (o.es[k]'QR);obtain⟨v,hv⟩:=aH (o.seen[k]'UQ);have HE:=ag he;have HV:=ag hv;rw[he]at t1 t2 t3 t4 mL kO hold;rw[hv]at es hsr;have uP:=ag (λ(W:World)=>Rp W e v kO hsr);obtain⟨Z2,nK,rK,Nn⟩:=e;dsimp only at t1 t2 t3 t4 mL kO hold;obtain⟨af,haf⟩:=aH ((⟨Z2,nK,rK,Nn⟩:bO).after v);have Wc:=ag haf;unfold DX at uP;dsimp only at uP;rw[haf]at uP;have SI:=XL kw ae;subst mL;subst fL;clear he hv hsr hold kO haf;have hgn:¬g=wr.heap.size:=by omega
    have vL:g<wr.heap.size:=eh;have haw:a<wr.heap.size:=by omega
    have Eh:sb<wr.heap.size:=by omega
    cases Nn with
    |true=>
     have V3:Hid (Mx ⟨8*(kw:Int),nK,rK,true⟩=(8*(kw:Int)+1)):=by show _=_;simp[Mx]
     go_upto_region 10 with(fail)
     refine qR [] [.p [0,1,2,5,6,7,9], .q [3,4,8,10,11,12], .h [13,14,15]] krQ (λ_ _ d _ _ h=>by cases d<;>exact h) krQ ?_
     dsimp only[pick,List.filterMap,List.getElem?_cons_zero,List.getElem?_cons_succ];refine cE ?_;rintro _ ⟨x0,rfl⟩;obtain⟨we,Uz⟩:=aH x0.w;obtain⟨ge,Ha⟩:=aH wr.heap.size;have NM:Hid (Below wr.heap.size wr we):=by rw[<-Uz];exact ji (ai (bZ _ _) _) x0
     have Sc:Hid (CB we ge 223 #[.int .u64 (8*(kw:Int)), .int .u64 nK, .int .u64 rK, .bool true]):=by rw[<-Uz,<-Ha];exact(CB.new _ _ _).bx x0
     have DC:ge<we.heap.size:=Sc.out.lt;have y0:=Sc.out.cell 0;have y1:=Sc.out.cell 1;have y2:=Sc.out.cell 2;have y3:=Sc.out.cell 3;simp only[PS,List.getElem?_cons_zero,List.getElem?_cons_succ]at y0 y1 y2 y3;have y5:we.cell? ⟨a,5,none⟩=some (.slice (some ⟨sb,0,none⟩) m sc):=(NM.out.cell (p:=⟨a,5,none⟩) haw).trans e5;have ys:we.cell? ⟨sb,k,none⟩=some (.int .u64 v):=(NM.out.cell (p:=⟨sb,k,none⟩) Eh).trans es;have ZG:a<we.heap.size:=by have:=NM.out.size;omega
     have YP:sb<we.heap.size:=by have:=NM.out.size;omega
     rw[Uz,Ha];clear Uz;with_reducible refine nz ?_
     dsimp only[pick,List.filterMap,List.getElem?_cons_zero,List.getElem?_cons_succ]
     (repeat(first|(refine tZ rfl ?_;apply Exists.intro;apply And.intro;(intro w;go_simp;rfl);simp only[puQ])|(refine qP rfl ?_;simp only[puQ])));refine pure_nil ?_
     with_reducible refine n9 ?_
     dsimp only[pick,List.filterMap,List.getElem?_cons_zero,List.getElem?_cons_succ]
     (repeat(go_big_quiet_step ((go_at_call 173;exact bK (uP.out _)))))
     refine cE ?_;rintro _ ⟨y,rfl⟩;with_reducible refine fj ?_
     dsimp only[pick,List.filterMap,List.getElem?_cons_zero,List.getElem?_cons_succ];have HBy:Hid (Below wr.heap.size wr (y.w.alloc (.cells #[.int .u64 (8*(kw:Int)+1), .int .u64 nK, .int .u64 af] 22))):=ai (ji NM.out y) _;go_wp2_with (at_builtin;refine ay rfl (.tmp 45) (.tmp 58) 96 rfl 22 (.int .u64 0) 1 8 rfl ae underlying96 iO ae A1 (3*k) c1 (bE (uG aR (o.es.take k) (o.seen.take k))) ⟨y.w.heap.size,0,none⟩ 3 3 [.int .u64 (8*(kw:Int)+1), .int .u64 nK, .int .u64 af] rfl rfl (HI.out.wd.keep (λb hb=>HBy.out.block b (HI.out.wd.lt hb))) rfl ae (dE y.w 22 _ _ _) (BI _ _ _) ae ?_;intro A3 c3 w3 GK fo R0 V2)
     with_reducible refine gz ?_
     with_reducible refine gI ?_
     go_upto_region 11 with(fail)
     refine qR [] [.p [0,1,4,5,6,8], .q [2,3,7,9,10,11,12], .h [13,14,15]] krQ (λ_ _ d _ _ h=>by cases d<;>exact h) krQ ?_
     dsimp only[pick,List.filterMap,List.getElem?_cons_zero,List.getElem?_cons_succ];refine cE ?_;rintro _ ⟨x1,rfl⟩;have qK:Hid (Below w3.heap.size w3 x1.w):=x1.below;obtain⟨w6,YK⟩:=aH x1.w;rw[YK]at qK;rw[YK];clear YK;have qJ:Hid (Ch (ah A1) we w6):=((Ch.au (S:=ah A1) (ai y.below _)).trans fo.out (λ_ hb _=>hb)).trans (Ch.au (S:=ah A1) qK.out) (λ_ hb _=>hb);have qm:∀b,b<w1.heap.size->¬ah A1 b:=λb hb ho=>by have:=HI.out.o1 b ho;omega
     have dS:¬ah A1 ge:=λho=>by have:=HI.out.wd.lt ho;omega
     have z0:=(qJ.out.cells ge 0 DC dS).trans y0;have z1:=(qJ.out.cells ge 1 DC dS).trans y1;have z2:=(qJ.out.cells ge 2 DC dS).trans y2;have z3:=(qJ.out.cells ge 3 DC dS).trans y3;have z5:=(qJ.out.cells a 5 ZG (qm a MR)).trans y5;have zs:=(qJ.out.cells sb k YP (qm sb Zg)).trans ys;have ZcG:=qJ.out.size;have Zde:ge<w6.heap.size:=by omega
     have Zds:a<w6.heap.size:=by omega
     have ZcK:sb<w6.heap.size:=by omega
     clear y0 y1 y2 y3 y5 ys qm dS e5 es t1 t2 t3 t4;with_reducible refine nz ?_
     dsimp only[pick,List.filterMap,List.getElem?_cons_zero,List.getElem?_cons_succ]
     (repeat(first|(refine tZ rfl ?_;apply Exists.intro;apply And.intro;(intro w;go_simp;rfl);simp only[puQ])|(refine qP rfl ?_;simp only[puQ])));refine pure_nil ?_
     with_reducible refine n9 ?_
     dsimp only[pick,List.filterMap,List.getElem?_cons_zero,List.getElem?_cons_succ]
     (repeat(go_big_quiet_step ((go_at_call 173;exact bK (uP.out _)))))
     refine cE ?_;rintro _ ⟨z,rfl⟩;with_reducible refine fj ?_
     dsimp only[pick,List.filterMap,List.getElem?_cons_zero,List.getElem?_cons_succ];have HBz:Hid (Below w6.heap.size w6 (z.w.alloc (.cells #[.int .u64 (8*(kw:Int)), .int .u64 af] 95))):=ai z.below _;have HCz:Hid (Sl 95 2 w6 A2 k c2 (az (oD (o.es.take k) (o.seen.take k)))):=(HI.out.ch.keep (λb hb=>NM.out.block b (HI.out.ch.lt hb))).ch qJ.out (λb hb h1=>HI.out.dj b h1 hb);go_wp2_with (at_builtin;refine ay rfl (.tmp 60) (.tmp 73) 92 rfl 95 (.agg #[.int .u64 0, .int .u64 0]) 2 16 rfl ae underlying92 eT ae A2 k c2 (az (oD (o.es.take k) (o.seen.take k))) ⟨z.w.heap.size,0,none⟩ 1 1 [.int .u64 (8*(kw:Int)), .int .u64 af] rfl rfl (HCz.out.keep (λb hb=>HBz.out.block b (HCz.out.lt hb))) rfl ae (jw z.w 95 _ _) (tO _ _) ae ?_;intro A4 c4 w4 lU eW mU uM)
     with_reducible refine gz ?_
     with_reducible refine gI ?_
     go_wp2;go_roundw
     case rel=>
      refine⟨k+1,A3,c3,A4,c4,by omega,by go_num,rfl,rfl,HI.out.next HKE.out AK.out HBy.out (qK.out.trans (HBz.out.mono qK.out.size)) fo.out eW.out R0.out (λb hb=>mU.out b hb) ?_ ?_⟩
      . have:=GK.out
        rw[HE.out,HV.out,Wc.out,V3.out];exact this
      . have:=lU.out
        rw[HE.out,HV.out,Wc.out];exact this
     case measure=>simp[intOf];omega
    |false=>
     have V3:Hid (Mx ⟨8*(kw:Int),nK,rK,false⟩=(8*(kw:Int))):=by show _=_;simp[Mx]
     go_upto_region 10 with(fail)
     refine qR [] [.p [0,1,2,5,6,7,9], .q [3,4,8,10,11,12], .h [13,14,15]] krQ (λ_ _ d _ _ h=>by cases d<;>exact h) krQ ?_
     dsimp only[pick,List.filterMap,List.getElem?_cons_zero,List.getElem?_cons_succ];refine cE ?_;rintro _ ⟨x0,rfl⟩;obtain⟨we,Uz⟩:=aH x0.w;obtain⟨ge,Ha⟩:=aH wr.heap.size;have NM:Hid (Below wr.heap.size wr we):=by rw[<-Uz];exact ji (ai (bZ _ _) _) x0
     have Sc:Hid (CB we ge 223 #[.int .u64 (8*(kw:Int)), .int .u64 nK, .int .u64 rK, .bool false]):=by rw[<-Uz,<-Ha];exact(CB.new _ _ _).bx x0
     have DC:ge<we.heap.size:=Sc.out.lt;have y0:=Sc.out.cell 0;have y1:=Sc.out.cell 1;have y2:=Sc.out.cell 2;have y3:=Sc.out.cell 3;simp only[PS,List.getElem?_cons_zero,List.getElem?_cons_succ]at y0 y1 y2 y3;have y5:we.cell? ⟨a,5,none⟩=some (.slice (some ⟨sb,0,none⟩) m sc):=(NM.out.cell (p:=⟨a,5,none⟩) haw).trans e5;have ys:we.cell? ⟨sb,k,none⟩=some (.int .u64 v):=(NM.out.cell (p:=⟨sb,k,none⟩) Eh).trans es;have ZG:a<we.heap.size:=by have:=NM.out.size;omega
     have YP:sb<we.heap.size:=by have:=NM.out.size;omega
     rw[Uz,Ha];clear Uz;with_reducible refine nz ?_
     dsimp only[pick,List.filterMap,List.getElem?_cons_zero,List.getElem?_cons_succ]
     (repeat(first|(refine tZ rfl ?_;apply Exists.intro;apply And.intro;(intro w;go_simp;rfl);simp only[puQ])|(refine qP rfl ?_;simp only[puQ])));refine pure_nil ?_
     with_reducible refine n9 ?_
     dsimp only[pick,List.filterMap,List.getElem?_cons_zero,List.getElem?_cons_succ]
     (repeat(go_big_quiet_step ((go_at_call 173;exact bK (uP.out _)))))
     refine cE ?_;rintro _ ⟨y,rfl⟩;with_reducible refine fj ?_
     dsimp only[pick,List.filterMap,List.getElem?_cons_zero,List.getElem?_cons_succ];have HBy:Hid (Below wr.heap.size wr (y.w.alloc (.cells #[.int .u64 (8*(kw:Int)), .int .u64 nK, .int .u64 af] 22))):=ai (ji NM.out y) _;go_wp2_with (at_builtin;refine ay rfl (.tmp 45) (.tmp 58) 96 rfl 22 (.int .u64 0) 1 8 rfl ae underlying96 iO ae A1 (3*k) c1 (bE (uG aR (o.es.take k) (o.seen.take k))) ⟨y.w.heap.size,0,none⟩ 3 3 [.int .u64 (8*(kw:Int)), .int .u64 nK, .int .u64 af] rfl rfl (HI.out.wd.keep (λb hb=>HBy.out.block b (HI.out.wd.lt hb))) rfl ae (dE y.w 22 _ _ _) (BI _ _ _) ae ?_;intro A3 c3 w3 GK fo R0 V2)
     with_reducible refine gz ?_
     with_reducible refine gI ?_
     go_upto_region 11 with(fail)
     refine qR [] [.p [0,1,4,5,6,8], .q [2,3,7,9,10,11,12], .h [13,14,15]] krQ (λ_ _ d _ _ h=>by cases d<;>exact h) krQ ?_
     dsimp only[pick,List.filterMap,List.getElem?_cons_zero,List.getElem?_cons_succ];refine cE ?_;rintro _ ⟨x1,rfl⟩;have qK:Hid (Below w3.heap.size w3 x1.w):=x1.below;obtain⟨w6,YK⟩:=aH x1.w;rw[YK]at qK;rw[YK];clear YK;have qJ:Hid (Ch (ah A1) we w6):=((Ch.au (S:=ah A1) (ai y.below _)).trans fo.out (λ_ hb _=>hb)).trans (Ch.au (S:=ah A1) qK.out) (λ_ hb _=>hb);have qm:∀b,b<w1.heap.size->¬ah A1 b:=λb hb ho=>by have:=HI.out.o1 b ho;omega
     have dS:¬ah A1 ge:=λho=>by have:=HI.out.wd.lt ho;omega
     have z0:=(qJ.out.cells ge 0 DC dS).trans y0;have z1:=(qJ.out.cells ge 1 DC dS).trans y1;have z2:=(qJ.out.cells ge 2 DC dS).trans y2;have z3:=(qJ.out.cells ge 3 DC dS).trans y3;have z5:=(qJ.out.cells a 5 ZG (qm a MR)).trans y5;have zs:=(qJ.out.cells sb k YP (qm sb Zg)).trans ys;have ZcG:=qJ.out.size;have Zde:ge<w6.heap.size:=by omega
     have Zds:a<w6.heap.size:=by omega
     have ZcK:sb<w6.heap.size:=by omega
     clear y0 y1 y2 y3 y5 ys qm dS e5 es t1 t2 t3 t4;with_reducible refine nz ?_
     dsimp only[pick,List.filterMap,List.getElem?_cons_zero,List.getElem?_cons_succ]
     (repeat(first|(refine tZ rfl ?_;apply Exists.intro;apply And.intro;(intro w;go_simp;rfl);simp only[puQ])|(refine qP rfl ?_;simp only[puQ])));refine pure_nil ?_
     with_reducible refine n9 ?_
     dsimp only[pick,List.filterMap,List.getElem?_cons_zero,List.getElem?_cons_succ]
     (repeat(go_big_quiet_step ((go_at_call 173;exact bK (uP.out _)))))
     refine cE ?_;rintro _ ⟨z,rfl⟩;with_reducible refine fj ?_
     dsimp only[pick,List.filterMap,List.getElem?_cons_zero,List.getElem?_cons_succ];have HBz:Hid (Below w6.heap.size w6 (z.w.alloc (.cells #[.int .u64 (8*(kw:Int)), .int .u64 af] 95))):=ai z.below _;have HCz:Hid (Sl 95 2 w6 A2 k c2 (az (oD (o.es.take k) (o.seen.take k)))):=(HI.out.ch.keep (λb hb=>NM.out.block b (HI.out.ch.lt hb))).ch qJ.out (λb hb h1=>HI.out.dj b h1 hb);go_wp2_with (at_builtin;refine ay rfl (.tmp 60) (.tmp 73) 92 rfl 95 (.agg #[.int .u64 0, .int .u64 0]) 2 16 rfl ae underlying92 eT ae A2 k c2 (az (oD (o.es.take k) (o.seen.take k))) ⟨z.w.heap.size,0,none⟩ 1 1 [.int .u64 (8*(kw:Int)), .int .u64 af] rfl rfl (HCz.out.keep (λb hb=>HBz.out.block b (HCz.out.lt hb))) rfl ae (jw z.w 95 _ _) (tO _ _) ae ?_;intro A4 c4 w4 lU eW mU uM)
     with_reducible refine gz ?_
     with_reducible refine gI ?_
     go_wp2;go_roundw
     case rel=>
      refine⟨k+1,A3,c3,A4,c4,by omega,by go_num,rfl,rfl,HI.out.next HKE.out AK.out HBy.out (qK.out.trans (HBz.out.mono qK.out.size)) fo.out eW.out R0.out (λb hb=>mU.out b hb) ?_ ?_⟩
      . have:=GK.out
        rw[HE.out,HV.out,Wc.out,V3.out];exact this
      . have:=lU.out
        rw[HE.out,HV.out,Wc.out];exact this
     case measure=>simp[intOf];omega
  . obtain rfl:k=m:=by omega
    have uT:o.es.take k=o.es:=fR (by rw[HM.out];omega);have SF:o.seen.take k=o.seen:=fR (by rw[xt.out];omega);have jc:=ag HI.out.bl;have G3:=HI.out.wd;have rI:=HI.out.ch;rw[uT,SF]at G3 rI;have CT:=ag G3;have Ec:=ag rI;have HO1:=ag HI.out.o1;have w_:=ag HI.out.o2;obtain⟨xs,SB⟩:=aH (uG aR o.es o.seen);rw[SB]at CT;have HXS:=ag SB;have SC:xs.length=3*k:=by rw[<-SB,jZ aR _ _ (by rw[xt.out,HM.out]),HM.out]
    have HXL:=ag SC;have HR0:Hid (Xr wr (lL (q0:Int) xs) 0 none 0 wr):=⟨Sl.nil,bZ _ _,by simp[ah]⟩;obtain⟨wl,hwl⟩:=aH wr;rw[hwl]at HR0 jc CT Ec;rw[hwl];clear uT SF G3 rI SB SC HI hwl;go_wp2;go_loopw [78,6,11,12,79,80,81,82,83,84,85,86,87,88,89,90,91,92,93,94] (λi rc _ _ _ _ _ _ _ _ _ _ _ _ _ _ _ _ _ _ wr=>∃(j:Nat) (A:Option Addr) (c:Nat),j<=3*k/\i= .int .i64 j/\rc= .slice A j c/\Xr wl (lL (q0:Int) xs) j A c wr) (λi _ _ _ _ _ _ _ _ _ _ _ _ _ _ _ _ _ _ _ _=>3*k-(intOf i).toNat)
    case atStart=>exact⟨0,none,0,by omega,rfl,rfl,HR0.out⟩
    case round=>
     clear HR0;obtain⟨j,A,c,hj,rfl,rfl,hI⟩:=hrel;have HI:=ag hI;clear hI;by_cases xm:j<3*k
     . have hjx:j<xs.length:=by rw[HXL.out];exact xm
       obtain⟨g,off,fL,eh,hc⟩:=(CT.out.keep (λb hb=>HI.out.bl.block b (CT.out.lt hb))).at_ (j:=j) (by rw[dW];exact hjx);rw[vP xs j hjx]at hc;obtain⟨v,hv⟩:=aH (xs[j]);rw[hv]at hc;have BC:Hid ((lL (q0:Int) xs).take (j+1)=(lL (q0:Int) xs).take j++[((q0:Int)+64+8*(j:Int),v)]):=by show _=_;rw[Ml _ _ hjx,hv]
       subst fL;have Zq:j<3*k:=xm;have ZeS:(j:Int)<3*(k:Int):=by omega
       have u1:IntKind.u64.wrap ((q0:Int)+64)=(q0:Int)+64:=bY _ ae;have u2:IntKind.u64.wrap (j:Int)=(j:Int):=bY _ ae;have u3:IntKind.u64.wrap ((j:Int)*8)=8*(j:Int):=by rw[Ff];exact bY _ ae
       have u4:IntKind.u64.wrap ((q0:Int)+64+8*(j:Int))=(q0:Int)+64+8*(j:Int):=bY _ ae;have hgn:¬g=wr.heap.size:=by omega
       clear hv hjx xm;go_wp2_with (at_builtin;refine ay rfl (.tmp 83) (.tmp 92) 92 rfl 95 (.agg #[.int .u64 0, .int .u64 0]) 2 16 rfl ae underlying92 eT ae A j c (az ((lL (q0:Int) xs).take j)) ⟨wr.heap.size,0,none⟩ 1 1 [.int .u64 ((q0:Int)+64+8*(j:Int)), .int .u64 v] rfl rfl (HI.out.sl.keep (λb hb=>d_ _ _ _ (HI.out.sl.lt hb))) rfl ae (jw wr 95 _ _) (tO _ _) ae ?_;intro A4 c4 w4 lU eW mU uM)
       go_roundw
       case rel=>
        refine⟨j+1,A4,c4,by omega,by go_num,rfl,?_,?_,λb hb=> ?_⟩
        . rw[BC.out,jS];exact lU.out
        . exact bM (ai HI.out.bl _) eW.out (λb hb=>HI.out.ow b hb)
        . have:=HI.out.bl.size
          rcases mU.out b hb with h|h
          . exact HI.out.ow b h
          . rw[h];simp;omega
       case measure=>simp[intOf];omega
     . obtain rfl:j=3*k:=by omega
       have mJ:(lL (q0:Int) xs).take (3*k)=lL (q0:Int) xs:=fR (by rw[jY,HXL.out];omega);have Lg:=HI.out.sl;rw[mJ]at Lg;have NI:=ag Lg;have HRO:=ag HI.out.ow;have BG:Hid (Below w1.heap.size w1 wr):=jc.out.trans (HI.out.bl.mono jc.out.size);have HBL:=ag HI.out.bl;have Zej:=jc.out.size;have ZcE:=HI.out.bl.size;clear Lg mJ HI;have haw:a<wr.heap.size:=by omega
       have k8:wr.cell? ⟨a,8,none⟩=some (.slice pa o.prog.length pc):=(BG.out.cell (p:=⟨a,8,none⟩) MR).trans d8;have kf8:wr.frozen? ⟨a,8,none⟩=false:=(BG.out.frozen (p:=⟨a,8,none⟩) MR).trans g8;rcases(by omega:s=1\/s=2\/s=3\/s=4\/s=5)with rfl|rfl|rfl|rfl|rfl
       . have HPW:Hid ((starts (lL (q0:Int) xs)).Pairwise (· <= ·)):=E6 _ _ ae
         have Zbg:w1.heap.size<=wr.heap.size:=by omega
         have HFS:Hid (Calls Tryz.prog 56 #[.slice A (3*k) c] wr (jO wr (bN (lL (q0:Int) xs)))):=by
          refine lz wr A (3*k) c (lL (q0:Int) xs) (by rw[jY,HXL.out]) ae ae NI.out (λp hp=>by obtain⟨i,hi,MM⟩:=zj _ _ p hp;rw[HXL.out]at hi;omega) (.inr HPW.out)
         go_wp2_with (first|(go_at_call 56;refine HFS.out.mono ?_;rintro r w5 ⟨A5,c5,rfl,Gc,Lj,zM⟩;have JZ:=ag Gc;have lJ:Hid (Below w1.heap.size w1 w5):=BG.out.trans (Lj.mono Zbg);have CU:=ag zM;have m8:=(lJ.out.cell (p:=⟨a,8,none⟩) MR).trans d8;have mf8:=(lJ.out.frozen (p:=⟨a,8,none⟩) MR).trans g8;have YL:=lJ.out.size;have Zl:a<w5.heap.size:=ae;clear Gc Lj zM))
         go_end0
         have Jn:=S8.out w5 lJ.out A5 _ c5 JZ.out (λb hb=>by have:=CU.out b hb;have:=VR.out;omega)
         have HQ:Hid (σ.enter aR (cP line) a o 1=σ.aB a {o with aa:=1,prog:=bN (lL (q0:Int) xs)}):=by
          show _=_
          unfold PwS.enter;rw[aA ae];congr 2;all_goals(unfold aX.bS;rw[aA rfl,HXS.out,HQ0.out])
         rw[HQ.out];exact⟨rfl,Jn⟩
       . have Xy:Hid (Calls Tryz.prog 160 #[.slice A1 (3*k) c1] wr λe w'=>e= .returned (.int .u64 (pM aR xs))/\wr=w'):=by
          refine Fq wr (S1.out.below BG.out) A1 (3*k) c1 xs HXL.out ae (Sl.rdW (CT.out.keep (λb hb=>HBL.out.block b (CT.out.lt hb)))) ?_;rw[<-HXS.out];exact Ni Ho.out ae
         have HFS:Hid (Calls Tryz.prog 56 #[.slice (some ⟨wr.heap.size,0,none⟩) 1 1] (wr.alloc (.cells #[.int .u64 (q0:Int), .int .u64 (pM aR xs)] 95)) (jO (wr.alloc (.cells #[.int .u64 (q0:Int), .int .u64 (pM aR xs)] 95)) (bN [((q0:Int),pM aR xs)]))):=by
          refine lz (wr.alloc (.cells #[.int .u64 (q0:Int), .int .u64 (pM aR xs)] 95)) (some ⟨wr.heap.size,0,none⟩) 1 1 [((q0:Int),pM aR xs)] rfl ae ae (pB wr _ _) (λp hp=>by rw[gH]at hp;rw[hp];exact⟨by show(0:Int)<=(q0:Int);omega,by show(q0:Int)<_;omega⟩) (.inl ae)
         go_wp2_with (first|(go_at_call 56;refine HFS.out.mono ?_;rintro r w5 ⟨A5,c5,rfl,Gc,Lj,zM⟩;have JZ:=ag Gc;have lJ:Hid (Below w1.heap.size w1 w5):=(ai BG.out _).trans (Lj.mono (by simp;omega));have CU:=ag zM;have m8:=(lJ.out.cell (p:=⟨a,8,none⟩) MR).trans d8;have mf8:=(lJ.out.frozen (p:=⟨a,8,none⟩) MR).trans g8;have YL:=lJ.out.size;have Zl:a<w5.heap.size:=ae;clear Gc Lj zM)|(go_at_call 160;refine Xy.out.mono ?_;rintro e w' ⟨rfl,rfl⟩))
         go_end0
         have Jn:=S8.out w5 lJ.out A5 _ c5 JZ.out (λb hb=>by have:=CU.out b hb;have:=VR.out;(have h9:wr.heap.size<=b:=by have h8:=CU.out b hb;simp at h8;omega);omega)
         have HQ:Hid (σ.enter aR (cP line) a o 2=σ.aB a {o with aa:=2,prog:=bN [((q0:Int),pM aR xs)]}):=by
          show _=_
          unfold PwS.enter;rw[aA ae];congr 2;all_goals(unfold aX.bS;rw[ax ae,aA rfl,HXS.out,HQ0.out])
         rw[HQ.out];exact⟨rfl,Jn⟩
       . have HFS:Hid (Calls Tryz.prog 56 #[.slice A2 k c2] wr (jO wr (bN (oD o.es o.seen)))):=by
          refine lz wr A2 k c2 (oD o.es o.seen) (by rw[ib _ _ (by rw[xt.out,HM.out]),HM.out]) ae ae (Ec.out.keep (λb hb=>HBL.out.block b (Ec.out.lt hb))) (λp hp=>by obtain⟨q,hq,MM⟩:=FC _ _ Ho.out.sl p hp;have:=Ho.out.wd hq;omega) (.inl ae)
         go_wp2_with (first|(go_at_call 56;refine HFS.out.mono ?_;rintro r w5 ⟨A5,c5,rfl,Gc,Lj,zM⟩;have JZ:=ag Gc;have lJ:Hid (Below w1.heap.size w1 w5):=BG.out.trans (Lj.mono ae);have CU:=ag zM;have m8:=(lJ.out.cell (p:=⟨a,8,none⟩) MR).trans d8;have mf8:=(lJ.out.frozen (p:=⟨a,8,none⟩) MR).trans g8;have YL:=lJ.out.size;have Zl:a<w5.heap.size:=ae;clear Gc Lj zM))
         go_end0
         have Jn:=S8.out w5 lJ.out A5 _ c5 JZ.out (λb hb=>by have:=CU.out b hb;have:=VR.out;omega)
         have HQ:Hid (σ.enter aR (cP line) a o 3=σ.aB a {o with aa:=3,prog:=bN (oD o.es o.seen)}):=by
          show _=_
          unfold PwS.enter;rw[aA ae];congr 2;all_goals(unfold aX.bS;rw[ax ae,ax ae,aA rfl])
         rw[HQ.out];exact⟨rfl,Jn⟩
       . have HFS:Hid (Calls Tryz.prog 56 #[.slice (some ⟨wr.heap.size,0,none⟩) 1 1] (wr.alloc (.cells #[.int .u64 (q0:Int), .int .u64 1836515329] 95)) (jO (wr.alloc (.cells #[.int .u64 (q0:Int), .int .u64 1836515329] 95)) (bN [((q0:Int),1836515329)]))):=by
          refine lz (wr.alloc (.cells #[.int .u64 (q0:Int), .int .u64 1836515329] 95)) (some ⟨wr.heap.size,0,none⟩) 1 1 [((q0:Int),1836515329)] rfl ae ae (pB wr _ _) (λp hp=>by rw[gH]at hp;rw[hp];exact⟨by show(0:Int)<=(q0:Int);omega,by show(q0:Int)<_;omega⟩) (.inl ae)
         go_wp2_with (first|(go_at_call 56;refine HFS.out.mono ?_;rintro r w5 ⟨A5,c5,rfl,Gc,Lj,zM⟩;have JZ:=ag Gc;have lJ:Hid (Below w1.heap.size w1 w5):=(ai BG.out _).trans (Lj.mono (by simp;omega));have CU:=ag zM;have m8:=(lJ.out.cell (p:=⟨a,8,none⟩) MR).trans d8;have mf8:=(lJ.out.frozen (p:=⟨a,8,none⟩) MR).trans g8;have YL:=lJ.out.size;have Zl:a<w5.heap.size:=ae;clear Gc Lj zM))
         go_end0
         have Jn:=S8.out w5 lJ.out A5 _ c5 JZ.out (λb hb=>by have:=CU.out b hb;have:=VR.out;(have h9:wr.heap.size<=b:=by have h8:=CU.out b hb;simp at h8;omega);omega)
         have HQ:Hid (σ.enter aR (cP line) a o 4=σ.aB a {o with aa:=4,prog:=bN [((q0:Int),1836515329)]}):=by
          show _=_
          unfold PwS.enter;rw[aA ae];congr 2;all_goals(unfold aX.bS;rw[ax ae,ax ae,ax ae,HQ0.out];rfl)
         rw[HQ.out];exact⟨rfl,Jn⟩
       . have HPX:Hid (bB K p d t line lines size wr (σ.aB a {o with aa:=5})):=LF.out.1.ko BG.out
         have HFI:=ag (Fu HPX.out (o:={o with aa:=5}) (aA rfl) true);go_wp2_with (go_at_call 171;refine HFI.out.mono ?_;rintro e w5 ⟨rfl,hX,uA⟩;have BB:=ag hX;have rz:=ag uA;clear hX uA)
         go_end0
         have HQ:Hid (σ.enter aR (cP line) a o 5=(σ.aB a {o with aa:=5}).fin a {o with aa:=5} true):=by
          show _=_
          unfold PwS.enter;rw[ax ae];unfold PwS.fin;refine PwS.ext' rfl rfl rfl (λb=> ?_);show(if b=a then _ else σ.ops b)=if b=a then _ else if b=a then _ else σ.ops b
          split<;>rfl
         rw[HQ.out];refine⟨rfl,BB.out,(LF.out.2.trans (Ch.au (S:=λb=>¬K b) BG.out) (λ_ hb _=>hb)).trans rz.out (λ_ hb _=>hb)⟩
end Go.Proofs.YtjkpjakodomnmaaGreatDoor
