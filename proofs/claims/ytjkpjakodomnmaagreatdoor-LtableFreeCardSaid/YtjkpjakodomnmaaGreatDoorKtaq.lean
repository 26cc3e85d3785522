/- The base, part 17 (merged). -/
import Derived.Test.YtjkpjakodomnmaaGreatDoorKtap
set_option linter.unusedVariables false
set_option linter.unusedSimpArgs false
set_option maxRecDepth 100000
set_option maxHeartbeats 16000000
namespace Go.Proofs.YtjkpjakodomnmaaGreatDoor
open Go.RowKit Go.Proofs.Tryz
theorem Inv.XK{sum:List Int->Int}{at0:Nat->Int}{n cnt N:Nat}{M:Nat->Prop}{σ:PwS}{xs:List Int}{L:Nat->Int}(h:Inv sum at0 n cnt M N σ xs L){k:Nat}(hk:M k):∃v,xs[k]?=some v/\0<=v/\v<4611686018427387904:=by
 have hLk:=h.hL k hk;cases hc:σ.cur with
 |none=>exact⟨_,h.idle hc k hk,hLk⟩
 |some c=>
  obtain⟨oc,g1,g2,g3,g4⟩:=h.run c hc;have bF:=h.ok c oc g1;rcases g4 with⟨_,_,_,hx⟩|⟨_,_,_,hx⟩|⟨_,hs,_,hx,hy⟩|⟨_,_,hx⟩
  . exact⟨_,hx k hk,hLk⟩
  . exact⟨_,hx k hk,hLk⟩
  . by_cases hq:∃q,q<oc.es.length/\ee oc.es q=k
    . obtain⟨q,gg,rfl⟩:=hq
      rcases hy q gg with h1|h1
      . exact⟨_,h1,hLk⟩
      . exact⟨_,h1,bO.qF _ _ (bF.at_ gg).new⟩
    . exact⟨_,hx k hk (λq gg he=>hq ⟨q,gg,he⟩),hLk⟩
  . exact⟨_,hx k hk,hLk⟩
theorem BS{n P:Nat}(h:264+P<=8*n):kh n 8 (Mq 256 P) (cP 0):=by
 refine⟨λk h=>by unfold Mq at h;omega,λk hk=>⟨8*(0+4*k),rfl,λj hj=>⟨by omega,by unfold Mq;omega⟩⟩⟩
theorem Zcw(NN:Nat):(aF NN).P=8+4*NN:=rfl
structure Hk(κ:Nat->Nat)(p d q n lines NN:Nat)(t:Nat->Nat)(bs:Nat->Option Nat)(w:World)(σ:PwS):Prop where
 pm:bB (λb=>κ b≠0) p d t 0 32 ((n:Int)*64) w σ
 hq:CB w q 117 (aK d p NN lines bs)
 kq:κ q=2
 tab:Tab w
 k0:κ 0=1
 hn:n<1000
 hP:2*(lines-2)=NN/\8<=lines/\lines<=15
 dS:272+4*NN=8*n
section
variable{κ:Nat->Nat}{r p d q a g n NN lines N Tm i:Nat}{t:Nat->Nat}{w w':World}{σ:PwS}{m:TM}{bs:Nat->Option Nat}{q0:List (Int×Int)}{ms:List TM}{xs:List Int}{L:Nat->Int}{T:Nat->TT}{fl:List Nat}{ord:List Nat}
theorem Ai.iB(h:Ai NN κ r p q t w a m):w.cell? ⟨a,28,none⟩=some (.bool m.ph.over)/\a<w.heap.size:=by
 obtain⟨h1,h2⟩:=h;cases hp:m.ph with
 |start=>rw[hp]at h2;exact⟨h2.cell 28,h2.lt⟩
 |rd d rs=>rw[hp]at h2;obtain⟨g,g1,_⟩:=h2;exact⟨g1.cell 28,g1.lt⟩
 |dH d x=>rw[hp]at h2;obtain⟨rd,g1⟩:=h2;exact⟨g1.cell 28,g1.lt⟩
 |fin v e=>rw[hp]at h2;obtain⟨d,g1⟩:=h2;exact⟨g1.cell 28,g1.lt⟩
def RY(κ:Nat->Nat)(r p d q a n NN lines:Nat)(t:Nat->Nat)(w:World)(bs:Nat->Option Nat)(σ:PwS)(m:TM)(b:Bool)(w':World):Prop:=
 ∃bl:Nat×(List bO->List Nat),σ.ops bl.1=none/\(∀es,(bl.2 es).Perm (List.range es.length))/\b=(aV aR (cP 0) (aF NN) σ m bl).2.over/\RZ κ r p d q a n NN lines t w bs (aV aR (cP 0) (aF NN) σ m bl).1 {m with ph:=(aV aR (cP 0) (aF NN) σ m bl).2} w'
def ZdI(κ:Nat->Nat)(r p d q a n NN lines:Nat)(t:Nat->Nat)(w:World)(bs:Nat->Option Nat)(σ:PwS)(m:TM)(w1:World)(ed:Bool):Prop:=
 w1.cell? ⟨a,28,none⟩=some (.bool false)/\a<w1.heap.size/\(ed=false->RY κ r p d q a n NN lines t w bs σ m false w1)/\
 (ed=true->Calls prog 79 #[.pointer (some ⟨a,0,none⟩)] w1 λe w2=>e= .returned (.tuple #[])/\∃b,w2.cell? ⟨a,28,none⟩=some (.bool b)/\a<w2.heap.size/\RY κ r p d q a n NN lines t w bs σ m b w2)
theorem XU{K:TK}{c:TC}{D:TD}{k:Nat}(h:k=tWd K c D)(hk:k=K.fr\/(∃b,b<K.B/\k=eJ K.W b)\/∃n j,1<=n/\n<=K.NN/\j<4/\k=K.nd n j):Mq K.W K.P (tWd K c D):=by
 rw[<-h];unfold Mq TK.P;rcases hk with rfl|⟨b,hb,rfl⟩|⟨n,j,h1,h2,h3,rfl⟩
 . unfold TK.fr nV;omega
 . unfold eJ;omega
 . unfold TK.nd aQ;omega
theorem Wl{D:TD}{rs:eP}(h:Hk κ p d q n lines NN t bs w σ)(W:TW aR (cP 0) n (aF NN) q0 σ ms N Tm xs L T fl ord)(hN:N<1000000)(hi:ms[i]?=some m)(hO:Ai NN κ r p q t w a m)(jf:bs m.th=some a)(hr:3<=r)(hp:m.ph= .rd D rs):
 ∃g ed,CB w a 107 (bV q m.th m.c (cr m.c.key) ((aF NN).rt m.c) D (some g) none 0 false)/\Calls prog 78 #[.pointer (some ⟨g,0,none⟩)] w λe w1=>e= .returned (.bool ed)/\ZdI κ r p d q a n NN lines t w bs σ m w1 ed:=by
 obtain⟨zH,Xh⟩:=hO;rw[hp]at Xh;obtain⟨g,hc,hg,WU,UX⟩:=Xh;have bU:m.ph.over=false:=by rw[hp];rfl
 have bQ:=W.sb.th.lt hi bU;obtain⟨hre,mJ⟩:=W.sb.rd i m D rs hi hp;have bF:=W.ls.ok i m hi;have hfc:=bF.ph;rw[hp]at hfc;obtain⟨f1,f3,f4,f5,f6,f7,f8,f9⟩:=hfc;have dS:=h.dS;have hn:=h.hn;have hP:=Zcw NN;obtain⟨k,iy,fC⟩:=f1.wd;have hMq:Mq 256 (8+4*NN) (tWd (aF NN) m.c D):=XU (K:=aF NN) iy fC;have hk8:tWd (aF NN) m.c D<8*n:=by unfold Mq at hMq;omega
 have hR:=W.inv.aI hN hMq hk8 f3 f4 hre f5 (f6 hre);obtain⟨aZ,xQ,b0,_,b1,b2,b3,_,hL1⟩:=W.ls.read W.inv hN (by show 256+8+(8+4*NN)<=8*n;omega) hi hp hre;have fU:=(ki.1 hi).1;have fv:(ms.set i {m with ph:= .rd D (σ.aI rs).2})[i]?=some {m with ph:= .rd D (σ.aI rs).2}:=nX fU;have Em:=(hL1.ok i _ fv).ph;obtain⟨r1,_,_,_,_,_,g8,_⟩:=Em;have YV:(σ.aI rs).2.place≠0:=by rw[b2];omega
 obtain⟨NU,CG⟩:=g8 YV;have hKg:κ g≠0:=by omega
 have hKa:κ a≠0:=by omega
 have Lg:=rdStep (rb:=g) h.pm hKg (by rw[mJ];exact hg) (λc hc=>by
  obtain⟨oc,g1,_⟩:=W.inv.run c hc;have bF:=W.inv.ok c oc g1;have:=bF.l6;exact⟨oc,g1,bF.sl,by omega⟩) f4 (by rw[f3];omega) W.inv.on.good hN (f6 hre) (λ_=>by
  obtain⟨v,hv,UA⟩:=W.inv.XK hMq;rw[f3,(W.inv.on.Dt hk8 hv 0).2];exact UA)
 rw[mJ]at Lg;have hQE:∀bl,aV aR (cP 0) (aF NN) σ m bl=mR (aF NN) σ m D rs bl:=λbl=>by unfold aV;rw[hp]
 have nJ:∀w1,fg (λb=>κ b≠0) p d t 0 32 ((n:Int)*64) g (.pointer (some ⟨p,0,none⟩)) (.pointer (some ⟨t m.th,0,none⟩)) w w1 (σ.aI rs).1 (σ.aI rs).2->
  CB w1 a 107 (bV q m.th m.c (cr m.c.key) ((aF NN).rt m.c) D (some g) none 0 false)/\CB w1 q 117 (aK d p NN lines bs)/\Ch (λb=>κ b=0\/κ b=r\/κ b=2) w w1:=λw1 xJ=>by
  obtain⟨_,_,hC⟩:=xJ;refine⟨hc.keep (hC.block a hc.lt (λhh=>hh.elim (λhx=>hx hKa) (λhx=>UX hx.symm))),h.hq.keep (hC.block q h.hq.lt (λhh=>hh.elim (λhx=>hx (by have:=h.kq;omega)) (λhx=>by have:=h.kq;rw[hx]at this;omega))),hC.mono (λb hb _=> ?_)⟩;rcases hb with hb|hb
  . exact .inl ae
  . exact .inr (.inl (by rw[hb];exact WU))
 have jD:CK (aF NN) m.c:=by
  have:=bF.vl;exact⟨this.1,this.2.1,this.2.2.1,this.2.2.2.2,by show NN<1000000;omega⟩
 have qI:(σ.aI rs).2.ended=true->∀w1,fg (λb=>κ b≠0) p d t 0 32 ((n:Int)*64) g (.pointer (some ⟨p,0,none⟩)) (.pointer (some ⟨t m.th,0,none⟩)) w w1 (σ.aI rs).1 (σ.aI rs).2->
  Calls prog 79 #[.pointer (some ⟨a,0,none⟩)] w1 λe w2=>e= .returned (.tuple #[])/\mv κ r p d q a n NN lines t w1 bs (σ.aI rs).1 m (tLoad (aF NN) m.c D (σ.aI rs).2.raw) w2:=λZbJ w1 xJ=>by
  obtain⟨x,hx⟩:∃x:Nat,(σ.aI rs).2.raw%1099511627776=(x:Int):=⟨((σ.aI rs).2.raw%1099511627776).toNat,by omega⟩;obtain⟨k1,k2,k3⟩:=nJ w1 xJ;obtain⟨u1,u2,u3⟩:=xJ
  have NT:Calls prog 112 #[.pointer (some ⟨g,0,none⟩)] w1 λe w'=>e= .returned (.tuple #[.int .u64 (x:Int), .int .i64 0])/\Below w1.heap.size w1 w':=by
   have:=Ub w1 u2 ⟨NU.1,by omega⟩;unfold eP.val at this;rw[ZbJ,hR.th.2.2,hx]at this;simpa using this
  have G3:∀W2,Below w1.heap.size w1 W2->Calls prog 117 #[.pointer (some ⟨g,0,none⟩)] W2 λe w'=>e= .returned (.int .u64 (σ.aI rs).2.raw)/\Below W2.heap.size W2 w':=λW2 eM=>by
   have:=X4 W2 (u2.below eM);rw[ZbJ]at this;simpa using this
  have hT:dt κ r p d q a n NN lines t w1 (σ.aI rs).1 m bs D (some g):=⟨u1,hn,by omega,k2,h.kq,zH,hr,bQ,jf,k1,xQ.on.err,⟨by rw[b1];exact W.sb.len,by rw[b1];exact W.sb.free.1⟩,jD⟩;exact LW hT f1 _ x hx (λhs=>by have:=CG hs;rw[hx]at this;have h9:((x:Int))<=(NN:Int):=this;omega) NT G3
 refine⟨g,(σ.aI rs).2.ended,hc,Lg.mono ?_⟩;rintro e w1 ⟨rfl,xJ⟩;obtain⟨k1,k2,k3⟩:=nJ w1 xJ;refine⟨rfl,k1.eQ.iB,k1.lt,λhed=> ?_,λhed=>(qI hed w1 xJ).mono ?_⟩
 . have e1:aV aR (cP 0) (aF NN) σ m (w.heap.size,λes=>List.range es.length)=((σ.aI rs).1, .rd D (σ.aI rs).2):=by
    rw[hQE];unfold mR;rw[hed];rfl
   refine⟨(w.heap.size,λes=>List.range es.length),h.pm.Mw (a_ _),λ_=>wB _,by rw[e1];rfl,?_⟩;rw[e1];exact⟨κ,λ_ _=>rfl,xJ.1,⟨zH,g,k1,xJ.2.1,WU,UX⟩,k2,k3⟩
 . rintro e w2 ⟨rfl,bl,eD,dy,nP⟩
   have e1:aV aR (cP 0) (aF NN) σ m bl=fY (σ.aI rs).1 m.th bl (tLoad (aF NN) m.c D (σ.aI rs).2.raw):=by
    rw[hQE];unfold mR;rw[hed];rfl
   have hq3:=nP;obtain⟨Ex,_,_,pq,_⟩:=hq3;refine⟨rfl,_,pq.iB.1,pq.iB.2,bl,by rw[<-b0];exact eD,dy,by rw[e1],?_⟩;rw[e1];exact nP.trans (λ_ _=>rfl) k3
end
section
variable{κ:Nat->Nat}{r p d q a g n NN lines N Tm i:Nat}{t:Nat->Nat}{w w':World}{σ:PwS}{m:TM}{bs:Nat->Option Nat}{q0:List (Int×Int)}{ms:List TM}{xs:List Int}{L:Nat->Int}{T:Nat->TT}{fl:List Nat}{ord:List Nat}
theorem Hk.nn(h:Hk κ p d q n lines NN t bs w σ):(aF NN).NN<1000000/\(aF NN).W+8+(aF NN).P<=8*n:=by
 have:=h.hP;have:=h.dS;exact⟨by show NN<1000000;omega,by show 256+8+(8+4*NN)<=8*n;omega⟩
theorem Tx{D:TD}{x:Nat}(h:Hk κ p d q n lines NN t bs w σ)(W:TW aR (cP 0) n (aF NN) q0 σ ms N Tm xs L T fl ord)(hN:N<1000000)(hi:ms[i]?=some m)(hO:Ai NN κ r p q t w a m)(jf:bs m.th=some a)(hr:3<=r)(hp:m.ph= .dH D x):
 Calls prog 49 #[.pointer (some ⟨a,0,none⟩)] w λe w'=>∃b,e= .returned (.bool b)/\RY κ r p d q a n NN lines t w bs σ m b w':=by
 obtain⟨zH,Xh⟩:=hO;rw[hp]at Xh;obtain⟨rd,hc⟩:=Xh;have bU:m.ph.over=false:=by rw[hp];rfl
 have bQ:=W.sb.th.lt hi bU;have bF:=W.ls.ok i m hi;obtain⟨o,f6,g2,g3,g4⟩:=W.sb.ch i m D x hi hp;have hn:=h.hn;have dS:=h.dS;have YT:kh n 8 (Mq 256 (8+4*NN)) (cP 0):=BS ae;obtain⟨σ',b,dz,L',S⟩:=W.inv.step (BS (n:=n) (P:=8+4*NN) ae) hN f6;have bh:=Yg h.pm (show κ 0≠0 by have:=h.k0;omega) h.tab W.inv YT hN ⟨by omega,by omega,W.sb.len⟩ f6;rw[S.eq]at bh;obtain⟨o',t1,t2,t3,t4,t5,t6,t7,t8⟩:=S.self
 have hQE:∀bl,aV aR (cP 0) (aF NN) σ m bl=if b then(σ',if o'.changed then .fin D.res 0 else .rd {D with aa:=1} (eV m.th ((aF NN).rt m.c)))else(σ',m.ph):=λbl=>by
  have:D3 σ' x=o'.changed:=by unfold D3;rw[t1]
  unfold aV;rw[hp];simp only[S.eq,this]
 have hKa:κ a≠0:=by omega
 have jD:CK (aF NN) m.c:=by
  have:=bF.vl;exact⟨this.1,this.2.1,this.2.2.1,this.2.2.2.2,h.nn.1⟩
 have eM:=(W.step YT hN (by have:=h.nn.2;exact this) h.nn.1 (MS NN) hi bU (bl:=(w.heap.size,λes=>List.range es.length)) (h.pm.Mw (a_ _)) (λ_=>wB _));obtain⟨XJ,L2,T2,ZX,Zed,Ep,_⟩:=eM;have hσ:(aV aR (cP 0) (aF NN) σ m (w.heap.size,λes=>List.range es.length)).1=σ':=by rw[hQE];split<;>rfl
 rw[hσ]at Ep;obtain⟨c0,c1,c2,c3,c4,c5,c6,c7,c8,c9,gj,fD,fZ,fW,fO,dC,iR,jh,jM,jL,jK,iD,jJ,jI,jH,gN,jG,iC,iB,hl,Lb⟩:=hc.eQ;rw[jn]at gj
 have nJ:∀w1,Ch (λb=>¬κ b≠0) w w1->CB w1 a 107 (bV q m.th m.c (cr m.c.key) ((aF NN).rt m.c) D rd (some x) 0 false)/\CB w1 q 117 (aK d p NN lines bs)/\Ch (λb=>κ b=0\/κ b=r\/κ b=2) w w1:=λw1 hC=>
  ⟨hc.keep (hC.block a hc.lt (λhh=>hh hKa)),h.hq.keep (hC.block q h.hq.lt (λhh=>hh (by have:=h.kq;omega))),hC.mono (λb hb _=> .inl ae)⟩
 have fX:=ag bh;have xb:=ag nJ;have Ta:=ag hQE
 have qI:Hid (b=true->∀w1,bB (λb=>κ b≠0) p d t 0 32 ((n:Int)*64) w1 σ'->Ch (λb=>¬κ b≠0) w w1->Calls prog 76 #[.pointer (some ⟨a,0,none⟩)] w1 λe w2=>e= .returned (.tuple #[])/\RZ κ r p d q a n NN lines t w1 bs σ' {m with ph:=if o'.changed then .fin D.res 0 else .rd {D with aa:=1} (eV m.th ((aF NN).rt m.c))} w2):=λhb w1 hP hC=>by
  obtain⟨k1,k2,k3⟩:=nJ w1 hC;exact H_ ⟨hP,hn,by omega,k2,h.kq,zH,hr,bQ,jf,k1,Ep.inv.on.err,⟨Ep.sb.len,Ep.sb.free.1⟩,jD,t1,by rw[t2,hb],t6 hb g2⟩
 have HOV:Hid (m.ph= .dH D x):=hp;have GH:=ag h.pm;have HKA:=ag zH;obtain⟨ph1,Zbo⟩:∃ph1:pz,(if o'.changed then pz.fin D.res 0 else .rd {D with aa:=1} (eV m.th ((aF NN).rt m.c)))=ph1:=⟨_,rfl⟩;rw[Zbo]at qI Ta;clear Lb hc bU bQ bF f6 g2 g3 g4 hn dS S t1 t2 t3 t4 t5 t6 t7 t8 hQE hKa nJ bh Zbo h hp zH Ep hσ jD YT c1 c2 c3 c4 c5 c6 c7 c8 c9 fD fZ fW fO dC iR jh jM jL jK iD jJ jI jH gN jG iC;cases b with
 |false=>
  go_enter func49,ntmps49
  go_upto_region 6 with(go_at_call 75;(with_reducible refine fX.out.mono ?_);rintro e w1 ⟨rfl,ZJ,iA⟩;have Ea:=ag ZJ;have tN:=ag iA;have Zbz:=(xb.out w1 iA).1.eQ.iB;have jB:=(xb.out w1 iA).1.lt;clear ZJ iA)
  go_wp2;refine bH (v:= .bool false) (by simp[results,results49,go_sem]) rfl ?_;obtain⟨k1,k2,k3⟩:=xb.out w1 tN.out;refine⟨false,rfl,(w.heap.size,λes=>List.range es.length),GH.out.Mw (a_ _),λ_=>wB _,?_,?_⟩
  . rw[Ta.out,HOV.out];rfl
  . rw[Ta.out]
    simp only[eS,dF];rw[HOV.out];exact⟨κ,λ_ _=>rfl,Ea.out,⟨HKA.out,rd,k1⟩,k2,k3⟩
 |true=>
  have Zcc:=ag (qI.out rfl);clear qI;go_enter func49,ntmps49
  go_upto_region 6 with(first
   |(go_at_call 75;(with_reducible refine fX.out.mono ?_);rintro e w1 ⟨rfl,ZJ,iA⟩;have Ea:=ag ZJ;have tN:=ag iA;have Zbz:=(xb.out w1 iA).1.eQ.iB;have US:=(xb.out w1 iA).1.eQ.c0;have jB:=(xb.out w1 iA).1.lt;clear ZJ iA)
   |(go_at_call 76;(with_reducible refine(Zcc.out w1 Ea.out tN.out).mono ?_);rintro e w2 ⟨rfl,nP⟩;have HQ2:=ag nP;obtain⟨_,_,_,pq,_⟩:=nP;have hk:=pq.iB;have Zeb:=hk.1;have ju:=hk.2;clear pq hk Zbz US jB))
  go_wp2;refine bH (v:= .bool ph1.over) (by simp[results,results49,go_sem]) rfl ?_;obtain⟨k1,k2,k3⟩:=xb.out w1 tN.out;refine⟨_,rfl,(w.heap.size,λes=>List.range es.length),GH.out.Mw (a_ _),λ_=>wB _,?_,?_⟩
  . rw[Ta.out];rfl
  . rw[Ta.out]
    simp only[cR];exact HQ2.out.trans (λ_ _=>rfl) k3
theorem Tw{D:TD}{rs:eP}(h:Hk κ p d q n lines NN t bs w σ)(W:TW aR (cP 0) n (aF NN) q0 σ ms N Tm xs L T fl ord)(hN:N<1000000)(hi:ms[i]?=some m)(hO:Ai NN κ r p q t w a m)(jf:bs m.th=some a)(hr:3<=r)(hp:m.ph= .rd D rs):
 Calls prog 49 #[.pointer (some ⟨a,0,none⟩)] w λe w'=>∃b,e= .returned (.bool b)/\RY κ r p d q a n NN lines t w bs σ m b w':=by
 obtain⟨g,ed,hc,Lg⟩:=Wl h W hN hi hO jf hr hp;obtain⟨c0,c1,c2,c3,c4,c5,c6,c7,c8,c9,gj,fD,fZ,fW,fO,dC,iR,jh,jM,jL,jK,iD,jJ,jI,jH,gN,jG,iC,iB,hl,Lb⟩:=hc.eQ;rw[jn]at c9;rw[qT]at gj;have NI:=ag Lg;clear Lg h W hN hi hO jf hr hp hc Lb c1 c2 c3 c4 c5 c6 c7 c8 fD fZ fW fO dC iR jh jM jL jK iD jJ jI jH gN jG iC;cases ed with
 |false=>
  go_enter func49,ntmps49
  go_upto_region 11 with(go_at_call 78;(with_reducible refine NI.out.mono ?_);rintro e w1 ⟨rfl,YC,k11,Qr,_⟩;have HX:=ag (Qr rfl);clear Qr)
  go_wp2;exact bH (v:= .bool false) (by simp[results,results49,go_sem]) rfl ⟨_,rfl,HX.out⟩
 |true=>
  go_enter func49,ntmps49
  go_upto_region 11 with(first
   |(go_at_call 78;(with_reducible refine NI.out.mono ?_);rintro e w1 ⟨rfl,YC,k11,_,Qr⟩;have HX:=ag (Qr rfl);clear Qr)
   |(go_at_call 79;(with_reducible refine HX.out.mono ?_);rintro e w2 ⟨rfl,b,Zcy,Zcx,hq⟩;have HQ:=ag hq;clear hq YC k11))
  go_wp2;exact bH (v:= .bool b) (by simp[results,results49,go_sem]) rfl ⟨_,rfl,HQ.out⟩
theorem TW.begins{K:TK}{sum:List Int->Int}{at0:Nat->Int}(h:TW sum at0 n K q0 σ ms N Tm xs L T fl ord)(iX:K.NN<1000000)(hi:ms[i]?=some m)(hp:m.ph= .start):TW sum at0 n K q0 σ (ms.set i {m with ph:= .rd ke (eV m.th (K.rt m.c)),bg:=Tm}) N (Tm+1) xs L T fl ord:=by
 have bU:m.ph.over=false:=by rw[hp];rfl
 have bQ:=h.sb.th.lt hi bU;have h1:=h.ls.later (lM Tm) (a_ N);have jD:=h.ls.ck hi iX;have hc:aT m=none:=by unfold aT;rw[hp]
 refine⟨h.inv,?_,h.sb.keep hi rfl bU hc rfl (λd2 r2 hx=>by injection hx with _ hx;rw[<-hx];exact⟨rfl,rfl⟩) rfl rfl⟩;refine h1.move (σ':=σ) (m':={m with ph:= .rd ke (eV m.th (K.rt m.c)),bg:=Tm}) hi rfl ?_ ?_ (λ_ _ hx=>hx) rfl (λd a hx=>by rw[hp]at hx;cases hx) (λd a hx=>(by cases hx)) ⟨λ_=>Nat.lt_succ_self Tm,λhx=>(by cases hx)⟩ (λhx=>by rw[hp]at hx;cases hx) bU (λhx=>(by cases hx))
 . have e2:m.out σ=none:=by unfold TM.out;rw[hp]
   rw[e2];simp[TM.out,eV]
 . exact kY (d:=ke) bQ (JR jD) (λhx=>absurd rfl hx)
theorem RY.start{Th:Nat->Nat}{w1:World}{m1:TM}{b:Bool}(h:RY Th r p d q a n NN lines t w1 bs σ m1 b w')(fv:m1={m with ph:= .rd ke (eV m.th ((aF NN).rt m.c)),bg:=Tm})(hp:m.ph= .start)(hk:∀b,b<w.heap.size->Th b=κ b)(hC:Ch (λb=>κ b=0\/κ b=r\/κ b=2) w w1):RY κ r p d q a n NN lines t w bs σ m b w':=by
 subst fv;obtain⟨bl,h1,h2,h3,h4⟩:=h
 have e1:aV aR (cP 0) (aF NN) σ m bl=aV aR (cP 0) (aF NN) σ {m with ph:= .rd ke (eV m.th ((aF NN).rt m.c)),bg:=Tm} bl:=by
  unfold aV;rw[hp];rfl
 refine⟨bl,h1,h2,by rw[e1];exact h3,?_⟩;rw[e1];obtain⟨dL,g2,g3,g4,g5,g6⟩:=h4;have h5:RZ Th r p d q a n NN lines t w1 bs (aV aR (cP 0) (aF NN) σ {m with ph:= .rd ke (eV m.th ((aF NN).rt m.c)),bg:=Tm} bl).1 {m with ph:=(aV aR (cP 0) (aF NN) σ {m with ph:= .rd ke (eV m.th ((aF NN).rt m.c)),bg:=Tm} bl).2} w':=⟨dL,g2,g3,g4.same rfl rfl rfl,g5,g6⟩;exact h5.trans hk hC
theorem Tv(h:Hk κ p d q n lines NN t bs w σ)(W:TW aR (cP 0) n (aF NN) q0 σ ms N Tm xs L T fl ord)(hN:N<1000000)(hi:ms[i]?=some m)(hO:Ai NN κ r p q t w a m)(jf:bs m.th=some a)(hr:3<=r)(hp:m.ph= .start):
 Calls prog 49 #[.pointer (some ⟨a,0,none⟩)] w λe w'=>∃b,e= .returned (.bool b)/\RY κ r p d q a n NN lines t w bs σ m b w':=by
 obtain⟨zH,hc⟩:=hO;rw[hp]at hc;have hc:CB w a 107 (bV q m.th m.c (cr m.c.key) ((aF NN).rt m.c) {ke with aa:=0} none none 0 false):=hc;have bU:m.ph.over=false:=by rw[hp];rfl
 have bQ:=W.sb.th.lt hi bU;have hn:=h.hn;have dS:=h.dS;have jD:=W.ls.ck hi h.nn.1;have hT:dt κ r p d q a n NN lines t w σ m bs {ke with aa:=0} none:=⟨h.pm,hn,by omega,h.hq,h.kq,zH,hr,bQ,jf,hc,W.inv.on.err,⟨W.sb.len,W.sb.free.1⟩,jD⟩;obtain⟨m1,fv⟩:∃m1:TM,m1={m with ph:= .rd ke (eV m.th ((aF NN).rt m.c)),bg:=Tm}:=⟨_,rfl⟩;have fV:TW aR (cP 0) n (aF NN) q0 σ (ms.set i m1) N (Tm+1) xs L T fl ord:=by rw[fv];exact W.begins h.nn.1 hi hp
 have Ht:Hid (Calls prog 77 #[.pointer (some ⟨a,0,none⟩)] w λe w1=>e= .returned (.tuple #[])/\∃(g:Nat) (ed:Bool) (rt:Nat) (D:TD),CB w1 a 107 (bV q m.th m.c (cr m.c.key) rt D (some g) none 0 false)/\Calls prog 78 #[.pointer (some ⟨g,0,none⟩)] w1 λe w2=>e= .returned (.bool ed)/\w2.cell? ⟨a,28,none⟩=some (.bool false)/\a<w2.heap.size/\(ed=false->RY κ r p d q a n NN lines t w bs σ m false w2)/\
       (ed=true->Calls prog 79 #[.pointer (some ⟨a,0,none⟩)] w2 λe w3=>e= .returned (.tuple #[])/\∃b,w3.cell? ⟨a,28,none⟩=some (.bool b)/\a<w3.heap.size/\RY κ r p d q a n NN lines t w bs σ m b w3)):=by
  refine(pF hT).mono ?_;rintro e w1 ⟨rfl,hB⟩;have hP:=hB.tpo (ph:= .rd ke (eV m.th ((aF NN).rt m.c))) (λbl=>rfl);obtain⟨Th,u1,u2,u3,u4,u5⟩:=hP;have US:(0:Nat)<w.heap.size:=h.tab.1;have hQ:Hk Th p d q n lines NN t bs w1 σ:=⟨u2,u4,by rw[u1 q h.hq.lt];exact h.kq,h.tab.ch u5 (λhx=>by have:=h.k0;omega),by rw[u1 0 US];exact h.k0,h.hn,h.hP,h.dS⟩;have fU:=(ki.1 hi).1;have ZL:Ai NN Th r p q t w1 a m1:=u3.same (by rw[fv]) (by rw[fv]) (by rw[fv]);obtain⟨g,ed,gh,Lg⟩:=Wl hQ fV hN (nX fU) ZL (by rw[fv];exact jf) hr (by rw[fv]);refine⟨rfl,g,ed,_,_,by rw[fv]at gh;exact gh,Lg.mono ?_⟩;rintro e w2 ⟨rfl,k1,k2,k3,k4⟩;refine⟨rfl,k1,k2,λhe=>(k3 he).start fv hp u1 u5,λhe=>(k4 he).mono ?_⟩;rintro e w3 ⟨rfl,b,v1,v2,v3⟩;exact⟨rfl,b,v1,v2,v3.start fv hp u1 u5⟩
 obtain⟨c0,c1,c2,c3,c4,c5,c6,c7,c8,c9,gj,fD,fZ,fW,fO,dC,iR,jh,jM,jL,jK,iD,jJ,jI,jH,gN,jG,iC,iB,hl,Lb⟩:=hc.eQ;rw[qT]at c9 gj;clear h W hN hi jf hr hp hc Lb bU bQ hn dS jD hT fv fV zH c1 c2 c3 c4 c5 c6 c7 c8 fD fZ fW fO dC iR jh jM jL jK iD jJ jI jH gN jG iC;go_enter func49,ntmps49
 go_upto_region 9 with(go_at_call 77;(with_reducible refine Ht.out.mono ?_);rintro e w1 ⟨rfl,g,ed,rt,D,gh,Lg⟩;have k9:=gh.eQ.c9;have kl:=gh.lt;have NI:=ag Lg;clear gh Lg)
 rw[jn]at k9;clear c0 c9 gj iB hl Ht;cases ed with
 |false=>
  go_upto_region 11 with(go_at_call 78;(with_reducible refine NI.out.mono ?_);rintro e w1 ⟨rfl,YC,k11,Qr,_⟩;have HX:=ag (Qr rfl);clear Qr)
  go_wp2;exact bH (v:= .bool false) (by simp[results,results49,go_sem]) rfl ⟨_,rfl,HX.out⟩
 |true=>
  go_upto_region 11 with(first
   |(go_at_call 78;(with_reducible refine NI.out.mono ?_);rintro e w1 ⟨rfl,YC,k11,_,Qr⟩;have HX:=ag (Qr rfl);clear Qr)
   |(go_at_call 79;(with_reducible refine HX.out.mono ?_);rintro e w2 ⟨rfl,b,Zcy,Zcx,hq⟩;have HQ:=ag hq;clear hq YC k11))
  go_wp2;exact bH (v:= .bool b) (by simp[results,results49,go_sem]) rfl ⟨_,rfl,HQ.out⟩
theorem toStep(h:Hk κ p d q n lines NN t bs w σ)(W:TW aR (cP 0) n (aF NN) q0 σ ms N Tm xs L T fl ord)(hN:N<1000000)(hi:ms[i]?=some m)(hO:Ai NN κ r p q t w a m)(jf:bs m.th=some a)(hr:3<=r)(bU:m.ph.over=false):
 Calls prog 49 #[.pointer (some ⟨a,0,none⟩)] w λe w'=>∃b,e= .returned (.bool b)/\RY κ r p d q a n NN lines t w bs σ m b w':=by
 cases hp:m.ph with
 |start=>exact Tv h W hN hi hO jf hr hp
 |rd D rs=>exact Tw h W hN hi hO jf hr hp
 |dH D x=>exact Tx h W hN hi hO jf hr hp
 |fin v e=>rw[hp]at bU;cases bU
end
def eL(cs:List (TC×Nat))(t:Nat):List TC:=(cs.filter λc=>c.2==t).map λc=>c.1
def oh(ms:List TM)(t:Nat):List TC:=(ms.filter λm=>m.th==t).map λm=>m.c
structure GF(cs:List (TC×Nat))(lf:Nat->List TC)(now:Nat->Option Nat)(ms:List TM):Prop where
 a8:∀(i:Nat) (m:TM),ms[i]?=some m->m.th<3/\m.ph.fresh=false
 seq:∀t,t<3->oh ms t++lf t=eL cs t
 nw:∀t i,now t=some i->∃m,ms[i]?=some m/\m.th=t
 Sy:∀(j:Nat) (m:TM),ms[j]?=some m->∃i,now m.th=some i/\j<=i/\(j≠i->m.ph.over=true)
 ord:∀(i j:Nat) (mi mj:TM),i<j->ms[i]?=some mi->ms[j]?=some mj->mi.th=mj.th->mi.ph.over=true/\mi.en<mj.bg
section
variable{cs:List (TC×Nat)}{lf:Nat->List TC}{now:Nat->Option Nat}{ms:List TM}{i t:Nat}{m m':TM}
theorem GF.start(cs:List (TC×Nat)):GF cs (eL cs) (λ_=>none) []:=
 ⟨λi m h=>by simp at h,λt _=>by simp[oh],λt i h=>(by cases h),λj m h=>by simp at h,λi j mi mj _ h=>by simp at h⟩
theorem Qx(ms:List TM)(i t:Nat){m m':TM}(hi:ms[i]?=some m)(h1:m'.c=m.c)(h3:m'.th=m.th):oh (ms.set i m') t=oh ms t:=by
 induction ms generalizing i with
 |nil=>simp at hi
 |cons x ms ih=>
  cases i with
  |zero=>
   simp at hi;subst hi;simp only[List.set_cons_zero,oh,sN,h3];split
   . simp[h1]
   . rfl
  |succ i=>
   have:=ih i (by simpa using hi);simp only[List.set_cons_succ];unfold oh at this |-;simp only[sN];split
   . simp only[oV,this]
   . exact this
theorem Qy(ms:List TM)(m:TM)(t:Nat):oh (ms++[m]) t=oh ms t++if m.th=t then [m.c]else []:=by
 unfold oh;rw[KL,yL];congr 1;by_cases h:m.th=t
 . simp[h]
 . simp[h]
theorem GF.again(h:GF cs lf now ms)(hi:ms[i]?=some m)(bU:m.ph.over=false)(h1:m'.c=m.c)(h3:m'.th=m.th)(h4:m'.bg=m.bg)(h5:m'.ph.fresh=false):GF cs lf now (ms.set i m'):=by
 have key:∀(j:Nat) (mj:TM),(ms.set i m')[j]?=some mj->(j=i/\mj=m')\/(j≠i/\ms[j]?=some mj):=λj mj hj=>aJ hi hj
 refine⟨λj mj hj=> ?_,λt ht=>by rw[Qx ms i t hi h1 h3];exact h.seq t ht,λt j hj=> ?_,λj mj hj=> ?_,λj k mj mk F6 hj hk he=> ?_⟩
 . rcases key j mj hj with⟨_,e⟩|⟨_,e⟩
   . rw[e,h3];exact⟨(h.a8 i m hi).1,h5⟩
   . exact h.a8 j mj e
 . obtain⟨mj,e1,e2⟩:=h.nw t j hj
   by_cases eb:j=i
   . subst eb
     rw[hi]at e1;injection e1 with e1;exact⟨m',nX (ki.1 hi).1,by rw[h3,e1];exact e2⟩
   . exact⟨mj,by rw[rE (cC eb)];exact e1,e2⟩
 . rcases key j mj hj with⟨e1,e2⟩|⟨_,e⟩
   . rw[e2,h3]
     obtain⟨k,g1,g2,g3⟩:=h.Sy i m hi;refine⟨k,g1,by rw[e1];exact g2,λaG=> ?_⟩;rw[e1]at aG;have:=g3 aG;rw[bU]at this;cases this
   . exact h.Sy j mj e
 . rcases key j mj hj with⟨e1,e2⟩|⟨_,e⟩
   . rcases key k mk hk with⟨f1,f2⟩|⟨_,f⟩
     . omega
     . have:=(h.ord i k m mk ae hi f (by rw[<-he,e2,h3])).1
       rw[bU]at this;cases this
   . rcases key k mk hk with⟨f1,f2⟩|⟨_,f⟩
     . have:=h.ord j i mj m ae e hi (by rw[he,f2,h3])
       rw[f2,h4];exact this
     . exact h.ord j k mj mk F6 e f he
theorem GF.new(h:GF cs lf now ms)(ht:t<3){c:TC}{rest:List TC}(hl:lf t=c::rest)(hd:∀i m,now t=some i->ms[i]?=some m->m.ph.over=true)(h1:m'.c=c)(h3:m'.th=t)(h5:m'.ph.fresh=false)
 (hT:∀(k:Nat) (mk:TM),ms[k]?=some mk->mk.ph.over=true->mk.en<m'.bg):GF cs (λs=>if s=t then rest else lf s) (λs=>if s=t then some ms.length else now s) (ms++[m']):=by
 have Zbq:∀(j:Nat) (mj:TM),ms[j]?=some mj->mj.th=t->mj.ph.over=true:=λj mj hj he=>by
  obtain⟨k,g1,g2,g3⟩:=h.Sy j mj hj;by_cases F6:j=k
  . rw[he]at g1
    exact hd k mj g1 (by rw[<-F6];exact hj)
  . exact g3 F6
 have key:∀(j:Nat) (mj:TM),(ms++[m'])[j]?=some mj->(j<ms.length/\ms[j]?=some mj)\/(j=ms.length/\mj=m'):=λj mj hj=>by
  by_cases oZ:j<ms.length
  . rw[nY oZ]at hj;exact .inl ⟨oZ,hj⟩
  . rw[nZ ae]at hj
    have ju:=(ki.1 hj).1;have e:j=ms.length:=by simp at ju;omega
    subst e;simp at hj;exact .inr ⟨rfl,hj.symm⟩
 have old:∀{j:Nat} {mj:TM},ms[j]?=some mj->(ms++[m'])[j]?=some mj:=λ{j mj} hj=>by
  rw[nY (ki.1 hj).1];exact hj
 refine⟨λj mj hj=> ?_,λs hs=> ?_,λs j hj=> ?_,λj mj hj=> ?_,λj k mj mk F6 hj hk he=> ?_⟩
 . rcases key j mj hj with⟨_,e⟩|⟨_,e⟩
   . exact h.a8 j mj e
   . rw[e,h3];exact⟨ht,h5⟩
 . rw[Qy,h3]
   have hq:=h.seq s hs;by_cases bh:s=t
   . subst bh
     rw[hl]at hq;simp only[cR,h1];rw[<-hq];simp
   . simp only[ax bh,ax (cC bh),vh]
     exact hq
 . have hj:(if s=t then some ms.length else now s)=some j:=hj
   by_cases bh:s=t
   . rw[aA bh]at hj
     injection hj with hj;exact⟨m',by rw[<-hj];simp,by rw[h3,bh]⟩
   . rw[ax bh]at hj
     obtain⟨mj,e1,e2⟩:=h.nw s j hj;exact⟨mj,old e1,e2⟩
 . rcases key j mj hj with⟨g,e⟩|⟨g,e⟩
   . by_cases bh:mj.th=t
     . exact⟨ms.length,aA bh,by omega,λ_=>Zbq j mj e bh⟩
     . obtain⟨k,g1,g2,g3⟩:=h.Sy j mj e
       exact⟨k,(ax bh).trans g1,g2,g3⟩
   . exact⟨ms.length,by rw[e];exact aA h3,by omega,λaG=>absurd g aG⟩
 . rcases key j mj hj with⟨g,e⟩|⟨g,e⟩
   . rcases key k mk hk with⟨g2,f⟩|⟨g2,f⟩
     . exact h.ord j k mj mk F6 e f he
     . have ho:=Zbq j mj e (by rw[he,f];exact h3)
       exact⟨ho,by rw[f];exact hT j mj e ho⟩
   . rcases key k mk hk with⟨g2,f⟩|⟨g2,f⟩
     . omega
     . omega
theorem GF.all(h:GF cs lf now ms)(hd:∀t i m,t<3->now t=some i->ms[i]?=some m->m.ph.over=true):∀(i:Nat) (m:TM),ms[i]?=some m->m.ph.over=true:=by
 intro i m hi;obtain⟨k,g1,g2,g3⟩:=h.Sy i m hi;by_cases hik:i=k
 . subst hik
   exact hd m.th i m (h.a8 i m hi).1 g1 hi
 . exact g3 hik
end
def fe(K:TK)(vs:List (Int×Int))(cs:List (TC×Nat))(ms:List TM)(ord:List Nat):Prop:=
 ∃(σ:PwS) (Tm:Nat) (L:Nat->Int) (T:Nat->TT) (fl:List Nat) (N:Nat) (lf:Nat->List TC) (now:Nat->Option Nat),eZ K vs σ ms Tm L T fl ord N/\GF cs lf now ms/\(∀s,s<3->lf s=[])/\(∀(i:Nat) (m:TM),ms[i]?=some m->m.ph.over=true)/\Tm<1000000
section
variable{K:TK}{N Tm t:Nat}{vs q0:List (Int×Int)}{cs:List (TC×Nat)}{ms:List TM}{ord:List Nat}{σ:PwS}{L:Nat->Int}{T:Nat->TT}{fl:List Nat}
theorem Qb{m:TM}(h:m.ph.over=true):∃v e,m.ph= .fin v e:=by
 cases hp:m.ph with
 |fin v e=>exact⟨v,e,rfl⟩
 |start=>rw[hp]at h;cases h
 |rd d r=>rw[hp]at h;cases h
 |dH d a=>rw[hp]at h;cases h
theorem eZ.perm(h:eZ K q0 σ ms Tm L T fl ord N)(aS:∀(i:Nat)(m:TM),ms[i]?=some m->m.ph.over=true):ord.Perm (List.range ms.length):=by
 rw[P4 h.nd Py];intro i;rw[B6];refine⟨h.mem i,λhi=> ?_⟩;have hg:ms[i]?=some ms[i]:=dG hi;exact(h.ok i _ hg).io.2 (uZ (aS i _ hg))
theorem eZ.fin(h:eZ K q0 σ ms Tm L T fl ord N)(aS:∀(i:Nat)(m:TM),ms[i]?=some m->m.ph.over=true){p i:Nat}{m:TM}(hp:ord[p]?=some i)(hi:ms[i]?=some m):
 m.ph= .fin (cI K.NN (dY K.NN ms q0 (ord.take p)) m.c).2.1 (cI K.NN (dY K.NN ms q0 (ord.take p)) m.c).2.2:=by
 obtain⟨v,e,hf⟩:=Qb (aS i m hi);have hr:=(h.ok i m hi).res p hp;have ho:m.out σ=some (v,e):=by unfold TM.out;rw[hf]
 rw[ho]at hr;injection hr with hr;rw[hf,<-hr]
theorem eZ.seq(h:eZ K q0 σ ms Tm L T fl ord N)(aS:∀(i:Nat)(m:TM),ms[i]?=some m->m.ph.over=true)(hs:∀(i j:Nat)(mi mj:TM),i<j->ms[i]?=some mi->ms[j]?=some mj->mi.en<mj.bg):ord=List.range ms.length:=by
 have hp:=h.perm aS;refine PZ (le:=λa b=>a<b) (λa b _ _ h1 h2=>by omega) ?_ List.pairwise_lt_range hp;rw[A8];intro p p' h1 h2 Ei;have g1:ord[p]?=some ord[p]:=dG h1;have g2:ord[p']?=some ord[p']:=dG h2;have l1:=h.mem _ (fq h1);have l2:=h.mem _ (fq h2)
 have aG:ord[p]≠ord[p']:=λhe=>by
  have:=(Ci h.nd (i:=p) (j:=p') (h₀:=h1) (h₁:=h2)).1 he;omega
 rcases Nat.lt_or_gt_of_ne aG with aM|WW
 . exact aM
 . exfalso
   have hk:ms[ord[p']]?=some (ms[ord[p']]'l2):=dG l2;have hi:ms[ord[p]]?=some (ms[ord[p]]'l1):=dG l1;have:=h.rt p _ _ _ _ g1 hi hk (aS _ _ hk) (hs _ _ _ _ WW hk hi);obtain⟨r,hr⟩:=Cn this;have tq:r<p:=by have:=(ki.1 hr).1;simp at this;omega
   rw[Fl,aA tq]at hr;obtain⟨r1,r2⟩:=ki.1 hr;have:=(Ci h.nd (i:=r) (j:=p') (h₀:=r1) (h₁:=h2)).1 r2;omega
theorem fe.O_(h:fe K vs cs ms ord)(ht:t<3)(hc:∀c∈cs,c.2=t):ms.map (λm=>m.c)=cs.map (λc=>c.1)/\ord=List.range ms.length:=by
 obtain⟨σ,Tm,L,T,fl,N,lf,now,h1,h2,h3,h4,h5⟩:=h
 have bQ:∀m∈ms,m.th=t:=λm hm=>by
  obtain⟨i,hi⟩:=ze.1 hm;have hl:=(h2.a8 i m hi).1;by_cases he:m.th=t
  . exact he
  . exfalso
    have hs:=h2.seq m.th hl;rw[h3 _ hl,vh]at hs
    have e1:eL cs m.th=[]:=by
     unfold eL;rw[Cr.2 (λc je=>by rw[hc c je];simp;exact λhx=>he hx.symm)];rfl
    rw[e1]at hs;have e2:m.c∈oh ms m.th:=iJ.2 ⟨m,xe.2 ⟨hm,by simp⟩,rfl⟩;rw[hs]at e2;cases e2
 constructor
 . have hs:=h2.seq t ht
   rw[h3 _ ht,vh]at hs
   have e1:oh ms t=ms.map (λm=>m.c):=by
    unfold oh;rw[yZ.2 (λm hm=>by simp[bQ m hm])]
   have e2:eL cs t=cs.map (λc=>c.1):=by
    unfold eL;rw[yZ.2 (λc je=>by simp[hc c je])]
   rw[<-e1,<-e2,hs]
 . refine h1.seq h4 (λi j mi mj xn hi hj=> ?_)
   exact(h2.ord i j mi mj xn hi hj (by rw[bQ mi (AZ hi),bQ mj (AZ hj)])).2
theorem fe.one{c:TC×Nat}(h:fe K vs [c] ms ord)(ht:c.2<3):∃m,ms=[m]/\m.c=c.1/\dY K.NN ms vs ord=(cI K.NN vs c.1).1/\m.ph= .fin (cI K.NN vs c.1).2.1 (cI K.NN vs c.1).2.2:=by
 obtain⟨h1,h2⟩:=h.O_ ht (λx hx=>by rw[gH.1 hx]);obtain⟨σ,Tm,L,T,fl,N,lf,now,g1,_,_,g4,_⟩:=h;have hl:ms.length=1:=by have:=bP List.length h1;simpa using this
 obtain⟨m,rfl⟩:=List.length_eq_one_iff.1 hl;simp only[oV,wu,tV,mF]at h1;have hf:=g1.fin g4 (p:=0) (i:=0) (m:=m) (by rw[h2];rfl) rfl;have e:dY K.NN [m] vs (ord.take 0)=vs:=rfl;rw[e,h1]at hf;refine⟨m,rfl,h1,?_,hf⟩;rw[h2];show(cI K.NN vs m.c).1=_
 rw[h1]
theorem fe.P9(h:fe K q0 cs ms ord):ord.Perm (List.range ms.length):=by
 obtain⟨σ,Tm,L,T,fl,N,lf,now,g1,_,_,g4,_⟩:=h;exact g1.perm g4
theorem yx(NN:Nat)(q:List (Int×Int))(c:TC):(cI NN q c).2.2=0\/(cI NN q c).2.2=4\/(cI NN q c).2.2=5\/(cI NN q c).2.2=6:=by
 unfold cI eu;cases bJ q c.key with
 |none=>
  by_cases h1:c.kind=1
  . by_cases h2:NN<=q.length<;>simp[h1,h2]
  . simp[h1]
 |some v=>
  by_cases h0:c.kind=0
  . simp[h0]
  . by_cases h1:c.kind=1
    . simp[h1]
    . by_cases h2:c.kind=2
      . simp[h2]
      . by_cases h3:v=c.old<;>simp[h0,h1,h2,h3]
theorem fe.err(h:fe K q0 cs ms ord){m:TM}(hm:m∈ms):∃v e,m.ph= .fin v e/\(e=0\/e=4\/e=5\/e=6):=by
 have hp:=h.P9;obtain⟨σ,Tm,L,T,fl,N,lf,now,g1,_,_,g4,_⟩:=h;obtain⟨i,hi⟩:=ze.1 hm;have vJ:i∈ord:=hp.mem_iff.2 (by rw[B6];exact(ki.1 hi).1);obtain⟨p,hp⟩:=Cn vJ;exact⟨_,_,g1.fin g4 hp hi,yx _ _ _⟩
end
def pz.got:pz->Int
 | .fin v _=>v
 |_=>0
def pz.er:pz->Int
 | .fin _ e=>e
 |_=>0
def zi(m:TM)(a:Nat):Array Value:=
 #[.pointer (some ⟨a,0,none⟩), .int .i64 (m.c.kind:Int), .int .u64 m.c.key, .int .u64 m.c.val, .int .u64 m.c.old, .int .i64 m.bg, .int .i64 m.en, .bool m.ph.over, .int .u64 m.ph.got, .int .i64 m.ph.er, .bool (!m.ph.fresh), .bool m.ph.over]
theorem EX{σ:PwS}{th:Nat}{bl:Nat×(List bO->List Nat)}{nx:TO}:(fY σ th bl nx).2.fresh=false:=by cases nx<;>rfl
theorem BM{K:TK}{σ:PwS}{m:TM}{d:TD}{r:eP}{bl:Nat×(List bO->List Nat)}:(mR K σ m d r bl).2.fresh=false:=by
 unfold mR;split
 . exact EX
 . rfl
theorem pI{sum:List Int->Int}{at0:Nat->Int}{K:TK}{σ:PwS}{m:TM}{bl:Nat×(List bO->List Nat)}(bU:m.ph.over=false):(aV sum at0 K σ m bl).2.fresh=false:=by
 unfold aV;cases hp:m.ph with
 |start=>exact BM
 |rd d r=>exact BM
 |dH d a=>
  dsimp only;split
  . split<;>rfl
  . rfl
 |fin v e=>rw[hp]at bU;cases bU
section
variable{κ dL:Nat->Nat}{r p d q a gm g n NN lines N Tm i:Nat}{t:Nat->Nat}{w w':World}{σ σ':PwS}{m m':TM}{bs:Nat->Option Nat}{q0:List (Int×Int)}{ms:List TM}{xs:List Int}{L:Nat->Int}{T:Nat->TT}{fl:List Nat}{ord:List Nat}
theorem TW.err{bl:Nat×(List bO->List Nat)}(W:TW aR (cP 0) n (aF NN) q0 σ ms N Tm xs L T fl ord)(dS:272+4*NN<=8*n)(iX:NN<1000000)(hN:N<1000000)(hi:ms[i]?=some m)(bU:m.ph.over=false)(h1:σ.ops bl.1=none)(h2:∀es,(bl.2 es).Perm (List.range es.length)):
 ∀v e,(aV aR (cP 0) (aF NN) σ m bl).2= .fin v e->e=0\/e=4\/e=5\/e=6:=λv e he=>by
 obtain⟨dz,L',T',eG,aZ,hW,_⟩:=W.step (BS (n:=n) (P:=8+4*NN) ae) hN (by show 256+8+(8+4*NN)<=8*n;omega) iX (MS NN) hi bU h1 h2;have fU:=(ki.1 hi).1;have bF:=hW.ls.ok i _ (nX fU)
 have Bi:TM.out (aV aR (cP 0) (aF NN) σ m bl).1 (m.next Tm (aV aR (cP 0) (aF NN) σ m bl).2)=some (v,e):=by
  unfold TM.out TM.next;rw[he]
 have nQ:=bF.io.2 (by rw[Bi];simp);obtain⟨pp,lS,hpe⟩:=List.mem_iff_getElem.1 nQ;have hr:=bF.res pp (by rw[dG lS,hpe]);rw[Bi]at hr;injection hr with hr;have:=yx (aF NN).NN (dY (aF NN).NN (ms.set i (m.next Tm (aV aR (cP 0) (aF NN) σ m bl).2)) q0 (aZ.take pp)) m.c;have h3:(cI (aF NN).NN (dY (aF NN).NN (ms.set i (m.next Tm (aV aR (cP 0) (aF NN) σ m bl).2)) q0 (aZ.take pp)) m.c).2=(v,e):=hr.symm;rw[h3]at this;exact this
structure Xv(NN:Nat)(κ:Nat->Nat)(i p q:Nat)(t:Nat->Nat)(w:World)(gm a:Nat)(m:TM):Prop where
 kg:κ gm=2*i+5
 cb:CB w gm 40 (zi m a)
 oc:Ai NN κ (2*i+4) p q t w a m
theorem Xv.ch{S:Nat->Prop}(h:Xv NN κ i p q t w gm a m)(hC:Ch S w w')(hS:∀b,b<w.heap.size->S b->κ b≠2*i+4/\κ b≠2*i+5)(hk:∀b,b<w.heap.size->dL b=κ b):Xv NN dL i p q t w' gm a m:=
 ⟨by rw[hk gm h.cb.lt];exact h.kg,h.cb.keep (hC.block gm h.cb.lt (λhs=>(hS gm h.cb.lt hs).2 h.kg)),h.oc.ch hC (λb hb hs=>(hS b hb hs).1) hk⟩
def VlP(v e:Int)(w:World)(x:Ending)(w':World):Prop:=x= .returned (.tuple #[.int .u64 v, .int .i64 e])/\∃n,w'=w.drewN n
theorem Kg{v e:Int}(h:Ai NN κ r p q t w a m)(hp:m.ph= .fin v e):
 Calls prog 23 #[.pointer (some ⟨a,0,none⟩)] w (VlP v e w):=by
 obtain⟨zH,h2⟩:=h;rw[hp]at h2;obtain⟨D,hc⟩:=h2;obtain⟨c0,c1,c2,c3,c4,c5,c6,c7,c8,c9,gj,fD,fZ,fW,fO,dC,iR,jh,jM,jL,jK,iD,jJ,jI,jH,gN,jG,iC,iB,hl,Lb⟩:=hc.eQ;clear Lb hc c1 c2 c3 c4 c5 c6 c7 c8 c9 gj fD fZ fW fO dC iR jh jM jL jK iD jJ jI jH gN;go_enter func23,ntmps23
 go_upto_region 5 with(fail)
 go_quiet (fail)
 go_wp2;exact bH (v:= .tuple #[.int .u64 v, .int .i64 e]) (by simp[results,results23,go_sem]) rfl ⟨rfl,_,rfl⟩
def Xu(κ:Nat->Nat)(i p d q gm a n NN lines:Nat)(t:Nat->Nat)(w:World)(bs:Nat->Option Nat)(σ:PwS)(m:TM)(Tm:Nat)(e:Ending)(w':World):Prop:=
 ∃bl:Nat×(List bO->List Nat),σ.ops bl.1=none/\(∀es,(bl.2 es).Perm (List.range es.length))/\e= .returned (.tuple #[])/\∃dL:Nat->Nat,(∀b,b<w.heap.size->dL b=κ b)/\bB (λb=>dL b≠0) p d t 0 32 ((n:Int)*64) w' (aV aR (cP 0) (aF NN) σ m bl).1/\
  Xv NN dL i p q t w' gm a (m.next Tm (aV aR (cP 0) (aF NN) σ m bl).2)/\CB w' q 117 (aK d p NN lines (N9 (m.next Tm (aV aR (cP 0) (aF NN) σ m bl).2) bs))/\Ch (λb=>κ b=0\/κ b=2*i+4\/κ b=2*i+5\/κ b=2) w w'
end
section
variable{κ dL:Nat->Nat}{r p d q a gm g n NN lines N Tm i:Nat}{t:Nat->Nat}{w w':World}{σ σ':PwS}{m m':TM}{bs:Nat->Option Nat}{q0:List (Int×Int)}{ms:List TM}{xs:List Int}{L:Nat->Int}{T:Nat->TT}{fl:List Nat}{ord:List Nat}
def Wz(m:TM)(a Tm:Nat):Array Value:=
 #[.pointer (some ⟨a,0,none⟩), .int .i64 (m.c.kind:Int), .int .u64 m.c.key, .int .u64 m.c.val, .int .u64 m.c.old, .int .i64 ((if m.ph.fresh then Tm else m.bg:Nat):Int), .int .i64 m.en, .bool false, .int .u64 0, .int .i64 0, .bool true, .bool false]
theorem Yq(bU:m.ph.over=false):Wz m a Tm=if m.ph.fresh then((zi m a).setIfInBounds 10 (.bool true)).setIfInBounds 5 (.int .i64 Tm)else zi m a:=by
 obtain⟨c,th,ph,bg,en⟩:=m;cases ph with
 |fin v e=>cases bU
 |_=>rfl
theorem uh{ph:pz}(bU:m.ph.over=false)(hf:ph.fresh=false):zi (m.next Tm ph) a=if ph.over then(((((Wz m a Tm).setIfInBounds 11 (.bool true)).setIfInBounds 6 (.int .i64 Tm)).setIfInBounds 8 (.int .u64 ph.got)).setIfInBounds 9 (.int .i64 ph.er)).setIfInBounds 7 (.bool true)else(Wz m a Tm).setIfInBounds 11 (.bool false):=by
 obtain⟨c,th,ph0,bg,en⟩:=m;cases ph with
 |start=>cases hf
 |_=>rfl
theorem IQ(h:Hk κ p d q n lines NN t bs w σ)(W:TW aR (cP 0) n (aF NN) q0 σ ms N Tm xs L T fl ord)(hN:N<1000000)(hi:ms[i]?=some m)(hM:Xv NN κ i p q t w gm a m)(jf:bs m.th=some a)(bU:m.ph.over=false):
 Calls prog 32 #[.pointer (some ⟨gm,0,none⟩), .int .i64 (Tm:Int)] w (Xu κ i p d q gm a n NN lines t w bs σ m Tm):=by
 have WU:=hM.kg;obtain⟨W1,fV⟩:∃W1,W1=if m.ph.fresh then(w.setCell ⟨gm,10,none⟩ (.bool true)).setCell ⟨gm,5,none⟩ (.int .i64 Tm)else w:=⟨_,rfl⟩
 have iA:Ch (At gm) w W1:=by
  rw[fV];split
  . exact((Ch.refl _ _).bj _ _).bj _ _
  . exact Ch.refl _ _
 have tB:CB W1 gm 40 (Wz m a Tm):=by
  rw[fV,Yq bU];split
  . exact(hM.cb.set 10 _).set 5 _
  . exact hM.cb
 have aG:∀b,κ b=2*i+4\/κ b=2\/κ b=1->b≠gm:=λb hb he=>by rw[he]at hb;omega
 have Xg:Hk κ p d q n lines NN t bs W1 σ:=⟨h.pm.SZ iA (λb _ hb=>by rw[show b=gm from hb];omega),h.hq.keep (iA.block q h.hq.lt (λhx=>aG q (.inr (.inl h.kq)) hx)),h.kq,h.tab.ch iA (λhx=>aG 0 (.inr (.inr h.k0)) hx),h.k0,h.hn,h.hP,h.dS⟩;have ZL:Ai NN κ (2*i+4) p q t W1 a m:=hM.oc.ch iA (λb _ hb=>by rw[show b=gm from hb];omega) (λ_ _=>rfl);have hST:=toStep Xg W hN hi ZL jf ae bU
 have fX:Hid (Calls prog 49 #[.pointer (some ⟨a,0,none⟩)] W1 λe w2=>∃b,e= .returned (.bool b)/\w2.cell? ⟨gm,11,none⟩=some (.bool false)/\gm<w2.heap.size/\w2.frozen? ⟨gm,11,none⟩=false/\
  ∃bl,σ.ops bl.1=none/\(∀es,(bl.2 es).Perm (List.range es.length))/\b=(aV aR (cP 0) (aF NN) σ m bl).2.over/\CB w2 gm 40 (Wz m a Tm)/\RZ κ (2*i+4) p d q a n NN lines t W1 bs (aV aR (cP 0) (aF NN) σ m bl).1 {m with ph:=(aV aR (cP 0) (aF NN) σ m bl).2} w2):=hST.mono (λe w2=>by
  rintro⟨b,rfl,bl,h1,h2,h3,h4⟩;have h5:=h4;obtain⟨Ex,g1,g2,g3,g4,g5⟩:=h4;have hk:CB w2 gm 40 (Wz m a Tm):=tB.keep (g5.block gm tB.lt (λhx=>by omega));exact⟨_,rfl,hk.cell 11,hk.lt,hk.frozen 11,bl,h1,h2,h3,hk,h5⟩)
 have iU:Hid (∀(w2 w3:World) (b:Bool) (bl:Nat×(List bO->List Nat)),σ.ops bl.1=none->(∀es,(bl.2 es).Perm (List.range es.length))->RZ κ (2*i+4) p d q a n NN lines t W1 bs (aV aR (cP 0) (aF NN) σ m bl).1 {m with ph:=(aV aR (cP 0) (aF NN) σ m bl).2} w2->Ch (At gm) w2 w3->
  CB w3 gm 40 (zi (m.next Tm (aV aR (cP 0) (aF NN) σ m bl).2) a)->Xu κ i p d q gm a n NN lines t w bs σ m Tm (.returned (.tuple #[])) w3):=λw2 w3 b bl h1 h2 h3 hC h4=>by
  obtain⟨Ex,g1,g2,g3,g4,g5⟩:=h3;have eh:gm<W1.heap.size:=tB.lt;have UY:Ex gm=2*i+5:=(g1 gm eh).trans WU;have hx:Ex q=2:=(g1 q Xg.hq.lt).trans h.kq;refine⟨bl,h1,h2,rfl,Ex,λb hb=>g1 b (cD hb iA.size),g2.SZ hC (λb _ hb=>by rw[show b=gm from hb];omega),⟨UY,h4,?_⟩,?_,?_⟩
  . exact(g3.ch hC (λb _ hb=>by rw[show b=gm from hb];omega) (λ_ _=>rfl)).same rfl rfl rfl
  . exact g4.keep (hC.block q g4.lt (λhb=>by rw[show q=gm from hb]at hx;omega))
  . refine((iA.mono (λb hb _=> ?_)).trans g5 (λb hb _=> ?_)).trans hC (λb hb hl=> ?_)
    . exact .inr (.inr (.inl (by rw[show b=gm from hb];exact WU)))
    . rcases hb with hb|hb|hb
      . exact .inl hb
      . exact .inr (.inl hb)
      . exact .inr (.inr (.inr hb))
    . exact .inr (.inr (.inl (by rw[show b=gm from hb];exact WU)))
 have HPH:=ag (λbl=>pI (sum:=aR) (at0:=cP 0) (K:=aF NN) (σ:=σ) (bl:=bl) bU);have dS:=h.dS;have jx:Hid (∀bl:Nat×(List bO->List Nat),σ.ops bl.1=none->(∀es,(bl.2 es).Perm (List.range es.length))->∀v e,(aV aR (cP 0) (aF NN) σ m bl).2= .fin v e->e=0\/e=4\/e=5\/e=6):=λbl h1 h2=>W.err ae h.nn.1 hN hi bU h1 h2
 have HOV:=ag bU;have HKG:=ag WU;have HL1:=ag tB.lt
 obtain⟨c0,c1,c2,c3,c4,c5,c6,c7,c8,c9⟩:w.cell? ⟨gm,0,none⟩=some (.pointer (some ⟨a,0,none⟩))/\True/\True/\w.cell? ⟨gm,5,none⟩=some (.int .i64 m.bg)/\True/\True/\True/\True/\w.cell? ⟨gm,10,none⟩=some (.bool (!m.ph.fresh))/\w.cell? ⟨gm,11,none⟩=some (.bool false):=
  ⟨hM.cb.cell 0,trivial,trivial,hM.cb.cell 5,trivial,trivial,trivial,trivial,hM.cb.cell 10,by have:=hM.cb.cell 11;rw[this];show some (Value.bool m.ph.over)=_;rw[bU]⟩
 have hl:=hM.cb.lt;have f8:=hM.cb.frozen 10;have f3:=hM.cb.frozen 5;have k0:W1.cell? ⟨gm,0,none⟩=some (.pointer (some ⟨a,0,none⟩)):=tB.cell 0;have jB:gm<W1.heap.size:=tB.lt;clear dS h W hN hi jf bU WU iA tB aG Xg ZL hST hM c1 c2 c4 c5 c6 c7;obtain⟨fr,gW⟩:=aH m.ph.fresh;rw[gW]at c8 fV;clear gW;cases fr with
 |true=>
  first|rw[aA rfl]at fV|rw[ax smQ]at fV
  go_enter func32,ntmps32
  go_upto_region 3 with(fail)
  try rw[<-fV]
  clear c0 c3 c8 c9 f8 f3 hl;have HW1:=ag fV;clear fV;go_upto_region 4 with(go_at_call 49;(with_reducible refine fX.out.mono ?_);rintro e w2 ⟨b,rfl,z9,zl,zf,bl,h1,h2,h3,h4,h5⟩;have H1:=ag h1;have H2:=ag h2;have H3:=ag h3;have H4:=ag h4;have H5:=ag h5;clear h1 h2 h3 h4 h5)
  clear fX k0 jB;have uz:CB (w2.setCell ⟨gm,11,none⟩ (.bool b)) gm 40 ((Wz m a Tm).setIfInBounds 11 (.bool b)):=H4.out.set 11 _;have ZO:Ch (At gm) w2 (w2.setCell ⟨gm,11,none⟩ (.bool b)):=(Ch.refl _ _).bj _ _;have hO9:Ai NN κ (2*i+4) p q t w2 a m->True:=λ_=>trivial
  obtain⟨W3,Ep⟩:=aH (w2.setCell ⟨gm,11,none⟩ (.bool b));rw[Ep]at uz ZO |-;have z0:W3.cell? ⟨gm,0,none⟩=some (.pointer (some ⟨a,0,none⟩)):=uz.cell 0;have z9':W3.cell? ⟨gm,11,none⟩=some (.bool b):=uz.cell 11;have zl3:=uz.lt;have g4:=uz.frozen 6;have g5:=uz.frozen 7;have g6:=uz.frozen 8;have g7:=uz.frozen 9;have y4:W3.cell? ⟨gm,6,none⟩=some (.int .i64 m.en):=uz.cell 6;have y5:W3.cell? ⟨gm,7,none⟩=some (.bool false):=uz.cell 7;have y6:W3.cell? ⟨gm,8,none⟩=some (.int .u64 0):=uz.cell 8;have y7:W3.cell? ⟨gm,9,none⟩=some (.int .i64 0):=uz.cell 9;have HC9:=ag uz;have HH9:=ag ZO;clear Ep z9 zl zf uz ZO hO9;cases b with
  |false=>
   go_wp2;refine bH (v:= .tuple #[]) (by simp[results,results32,go_sem]) rfl (iU.out w2 W3 false bl H1.out H2.out H5.out HH9.out ?_);rw[uh HOV.out (HPH.out bl),<-H3.out];exact HC9.out
  |true=>
   obtain⟨v,e,oo⟩:∃v e,(aV aR (cP 0) (aF NN) σ m bl).2= .fin v e:=by
    have:=H3.out;cases hp:(aV aR (cP 0) (aF NN) σ m bl).2 with
    |fin v e=>exact⟨v,e,rfl⟩
    |_=>rw[hp]at this;cases this
   have he3:¬e=3:=by have:=jx.out bl H1.out H2.out v e oo;omega
   have he7:¬e=7:=by have:=jx.out bl H1.out H2.out v e oo;omega
   have R4:Hid (Calls prog 23 #[.pointer (some ⟨a,0,none⟩)] W3 (VlP v e W3)):=by
    obtain⟨Ex,j1,j2,j3,j4,j5⟩:=H5.out
    have j6:Ai NN Ex (2*i+4) p q t W3 a {m with ph:=(aV aR (cP 0) (aF NN) σ m bl).2}:=j3.ch HH9.out (λb hl hb=>by
     rw[show b=gm from hb];have e1:=j1 gm HL1.out;have e2:=HKG.out;omega) (λ_ _=>rfl)
    exact Kg j6 oo
   have Zaq:Hid ((aV aR (cP 0) (aF NN) σ m bl).2= .fin v e):=oo;clear oo;go_upto_region 6 with(go_at_call 23;(with_reducible refine R4.out.mono ?_);rintro x w4 ⟨rfl,n4,rfl⟩)
   go_wp2;refine bH (v:= .tuple #[]) (by simp[results,results32,go_sem]) rfl (iU.out w2 _ true bl H1.out H2.out H5.out (HH9.out.trans ((((((Ch.refl (At gm) W3).drewN n4).bj 6 _).bj 8 _).bj 9 _).bj 7 _) (λb hb _=>hb)) ?_);rw[uh HOV.out (HPH.out bl),<-H3.out,Zaq.out];simp only[cR];have Q4:(e !=3&&e !=7)=true:=by simp[he3,he7]
   rw[Q4];exact((((HC9.out.drewN n4).set 6 _).set 8 _).set 9 _).set 7 _
 |false=>
  first|rw[aA rfl]at fV|rw[ax smQ]at fV
  go_enter func32,ntmps32
  go_upto_region 3 with(fail)
  try rw[<-fV]
  clear c0 c3 c8 c9 f8 f3 hl;have HW1:=ag fV;clear fV;go_upto_region 4 with(go_at_call 49;(with_reducible refine fX.out.mono ?_);rintro e w2 ⟨b,rfl,z9,zl,zf,bl,h1,h2,h3,h4,h5⟩;have H1:=ag h1;have H2:=ag h2;have H3:=ag h3;have H4:=ag h4;have H5:=ag h5;clear h1 h2 h3 h4 h5)
  clear fX k0 jB;have uz:CB (w2.setCell ⟨gm,11,none⟩ (.bool b)) gm 40 ((Wz m a Tm).setIfInBounds 11 (.bool b)):=H4.out.set 11 _;have ZO:Ch (At gm) w2 (w2.setCell ⟨gm,11,none⟩ (.bool b)):=(Ch.refl _ _).bj _ _;have hO9:Ai NN κ (2*i+4) p q t w2 a m->True:=λ_=>trivial
  obtain⟨W3,Ep⟩:=aH (w2.setCell ⟨gm,11,none⟩ (.bool b));rw[Ep]at uz ZO |-;have z0:W3.cell? ⟨gm,0,none⟩=some (.pointer (some ⟨a,0,none⟩)):=uz.cell 0;have z9':W3.cell? ⟨gm,11,none⟩=some (.bool b):=uz.cell 11;have zl3:=uz.lt;have g4:=uz.frozen 6;have g5:=uz.frozen 7;have g6:=uz.frozen 8;have g7:=uz.frozen 9;have y4:W3.cell? ⟨gm,6,none⟩=some (.int .i64 m.en):=uz.cell 6;have y5:W3.cell? ⟨gm,7,none⟩=some (.bool false):=uz.cell 7;have y6:W3.cell? ⟨gm,8,none⟩=some (.int .u64 0):=uz.cell 8;have y7:W3.cell? ⟨gm,9,none⟩=some (.int .i64 0):=uz.cell 9;have HC9:=ag uz;have HH9:=ag ZO;clear Ep z9 zl zf uz ZO hO9;cases b with
  |false=>
   go_wp2;refine bH (v:= .tuple #[]) (by simp[results,results32,go_sem]) rfl (iU.out w2 W3 false bl H1.out H2.out H5.out HH9.out ?_);rw[uh HOV.out (HPH.out bl),<-H3.out];exact HC9.out
  |true=>
   obtain⟨v,e,oo⟩:∃v e,(aV aR (cP 0) (aF NN) σ m bl).2= .fin v e:=by
    have:=H3.out;cases hp:(aV aR (cP 0) (aF NN) σ m bl).2 with
    |fin v e=>exact⟨v,e,rfl⟩
    |_=>rw[hp]at this;cases this
   have he3:¬e=3:=by have:=jx.out bl H1.out H2.out v e oo;omega
   have he7:¬e=7:=by have:=jx.out bl H1.out H2.out v e oo;omega
   have R4:Hid (Calls prog 23 #[.pointer (some ⟨a,0,none⟩)] W3 (VlP v e W3)):=by
    obtain⟨Ex,j1,j2,j3,j4,j5⟩:=H5.out
    have j6:Ai NN Ex (2*i+4) p q t W3 a {m with ph:=(aV aR (cP 0) (aF NN) σ m bl).2}:=j3.ch HH9.out (λb hl hb=>by
     rw[show b=gm from hb];have e1:=j1 gm HL1.out;have e2:=HKG.out;omega) (λ_ _=>rfl)
    exact Kg j6 oo
   have Zaq:Hid ((aV aR (cP 0) (aF NN) σ m bl).2= .fin v e):=oo;clear oo;go_upto_region 6 with(go_at_call 23;(with_reducible refine R4.out.mono ?_);rintro x w4 ⟨rfl,n4,rfl⟩)
   go_wp2;refine bH (v:= .tuple #[]) (by simp[results,results32,go_sem]) rfl (iU.out w2 _ true bl H1.out H2.out H5.out (HH9.out.trans ((((((Ch.refl (At gm) W3).drewN n4).bj 6 _).bj 8 _).bj 9 _).bj 7 _) (λb hb _=>hb)) ?_);rw[uh HOV.out (HPH.out bl),<-H3.out,Zaq.out];simp only[cR];have Q4:(e !=3&&e !=7)=true:=by simp[he3,he7]
   rw[Q4];exact((((HC9.out.drewN n4).set 6 _).set 8 _).set 9 _).set 7 _
end
section
variable{P:Program}{md:Region.Mode}{ops:Array Oper}{Q:Exit->Act->World->Prop}{S:World->Prop}{n:Nat}
def aw(P:Program)(md:Region.Mode)(ops:Array Oper)(Q:Exit->Act->World->Prop)(S:World->Prop)(n:Nat):Nat->Array Bool->Act->World->Prop
 |0,ls,a,w=>Region.ready md ops ls=[]/\Q .normal a w
 |f+1,ls,a,w=>(Region.ready md ops ls=[]->Q .normal a w)/\∀i∈Region.ready md ops ls,wpOp P ops Q i (λa' w'=>(i≠n->S w')/\aw P md ops Q S n f (ls.setIfInBounds i true) a' w') a w
theorem aw.any:∀(f:Nat) (ls:Array Bool) (a:Act) (w:World),aw P md ops Q S n f ls a w->wpAny P md ops Q f ls a w
 |0,_,_,_,h=>h
 |f+1,_,_,_,h=>⟨h.1,λi hi=>wpOp_mono (λa' w' h'=>aw.any f _ a' w' h'.2) (h.2 i hi)⟩
theorem sU{ls:Array Bool}{i:Nat}(hw:Region.waitsFor md ops n i=true)(hi:i∈Region.ready md ops ls):n∉Region.ready md ops ls:=λhn=>by
 obtain⟨Y9,on,dP,aS⟩:=lq.1 hn;obtain⟨on',UH,e,he,hb,heq⟩:=Region.waitsFor_spec hw;rw[dP]at UH;injection UH with UH;subst UH;have h1:=aS e he hb;have h0:=(lq.1 hi).1;rw[heq,BV h0]at h1;cases h1
theorem aw.first{i:Nat}{oi:Oper}{v:Value}(hi:ops[i]?=some oi)(ja:∀(j:Nat)(o:Oper) cs b,ops[j]?=some o->o.op≠ .select cs b)
 (hQ:∀c a w,Q (.panic c) (a.put oi.dst v) w->Q (.panic c) a w) (YI:Region.waitsFor md ops n i=true) (aG:i≠n):
 ∀(f:Nat) (ls:Array Bool) (a:Act) (w:World),
  (∀j oj,ops[j]?=some oj->j≠i->ls.getD j true=false->(∀e∈oj.after,Region.binds md e=true->e.on≠i)->oi.apart ops oj=true)->
  i∈Region.ready md ops ls->YieldsIf P ops S oi v a->S w->aw P md ops Q S n f (ls.setIfInBounds i true) (a.put oi.dst v) w->aw P md ops Q S n (f+1) ls a w:=by
 intro f;induction f with
 |zero=>
  intro ls a w _ hr hy hS H;refine⟨λh=>(by rw[h]at hr;cases hr),λj hj=> ?_⟩;by_cases eb:j=i
  . subst eb;exact hy.wpOp hi hS ⟨λ_=>hS,H⟩
  . have:=tX hj eb
    rw[H.1]at this;cases this
 |succ f ih=>
  intro ls a w oN hr hy hS H;refine⟨λh=>(by rw[h]at hr;cases hr),λj hj=> ?_⟩;by_cases eb:j=i
  . subst eb;exact hy.wpOp hi hS ⟨λ_=>hS,H⟩
  . have El:j≠n:=λhx=>sU YI hr (hx▸hj)
    obtain⟨F5,oj,xl,aS⟩:=lq.1 hj
    have Je:∀e∈oj.after,Region.binds md e=true->e.on≠i:=λe he hb heq=>by
     have h1:=aS e he hb;rw[heq,BV (lq.1 hr).1]at h1;cases h1
    have h2:=wpOp_putIf xl (oN j oj xl eb F5 Je) (λcs b=>ja i oi cs b hi) (λcs b=>ja j oj cs b xl) hQ hy (H.2 j (tX hj eb));refine wpOp_mono (λa' w' h3=>⟨λ_=>h3.2.1 El,ih (ls.setIfInBounds j true) a' w' (λk ok hk hki Bf js=> ?_) (tX hr (cC eb)) h3.1 (h3.2.1 El) ?_⟩) h2
    . refine oN k ok hk hki ?_ js
      by_cases F6:j=k
      . subst F6;exact F5
      . rw[Fc true F6]at Bf;exact Bf
    . rw[PY _ _ eb]
      exact h3.2.2
theorem aw.take{i:Nat}{oi:Oper}{v:Value}{f:Nat}{ls:Array Bool}{a:Act}{w:World}(hi:ops[i]?=some oi)(hs:Region.noSelect ops=true)(hf:Region.free md ops ls i=true)(hr:(Region.ready md ops ls).contains i=true)
 (YI:(decide (i≠n)&&Region.waitsFor md ops n i)=true) (hQ:∀c a w,Q (.panic c) (a.put oi.dst v) w->Q (.panic c) a w) (hy:YieldsIf P ops S oi v a) (hS:S w) (h:aw P md ops Q S n f (ls.setIfInBounds i true) (a.put oi.dst v) w):aw P md ops Q S n (f+1) ls a w:=by
 rw[kz,sQ]at YI;exact aw.first hi (KO hs) hQ YI.2 YI.1 f ls a w (KF hi hf) (by simpa using hr) hy hS h
theorem aw.tk(i:Nat){oi:Oper}{v:Value}{f:Nat}{ls:Array Bool}{a:Act}{w:World}(h:aw P md ops Q S n f (ls.setIfInBounds i true) (a.put oi.dst v) w)(hi:ops[i]?=some oi:=by rfl)(hs:Region.noSelect ops=true:=by kernel_rfl)(hf:Region.free md ops ls i=true:=by kernel_rfl)(hr:(Region.ready md ops ls).contains i=true:=by kernel_rfl)(YI:(decide (i≠n)&&Region.waitsFor md ops n i)=true:=by kernel_rfl)(hQ:∀c a w,Q (.panic c) (a.put oi.dst v) w->Q (.panic c) a w:=by exact λ_ _ _ h=>h)(hy:YieldsIf P ops S oi v a:=by exact Or.inl ⟨by rfl,by(intro w hSw;(try dsimp only at hSw);go_simp;try(with_reducible rfl))⟩)(hS:S w:=by assumption):aw P md ops Q S n (f+1) ls a w:=
 aw.take hi hs hf hr YI hQ hy hS h
theorem aw.one{i:Nat}{o:Oper}{f:Nat}{ls:Array Bool}{a:Act}{w:World}(hr:Region.ready md ops ls=[i])(ho:ops[i]?=some o)
 (h:∀K':Act->World->Prop,Shut (∀a w,(i≠n->S w)->((i≠n->S w)->aw P md ops Q S n f (ls.setIfInBounds i true) a w)->K' a w)->if Region.wanted o (yielded ops a.tmps)=true then Oper.wp P o a w K' Q else K' (a.put o.dst undef) w):aw P md ops Q S n (f+1) ls a w:=by
 refine⟨λh0=>(by rw[hr]at h0;cases h0),λj hj=> ?_⟩;rw[hr,gH]at hj;subst hj;exact wpOp_step ho (λK' hK=>h K' (λa w hS hW=>hK a w ⟨hS,hW hS⟩))
theorem aw.done{ls:Array Bool}{a:Act}{w:World}(hr:Region.ready md ops ls=[])(h:Q .normal a w):∀f,aw P md ops Q S n f ls a w
 |0=>⟨hr,h⟩
 |_+1=>⟨λ_=>h,by rw[hr];simp⟩
theorem gQ{id:Nat}{a:Act}{w:World}(n:Nat)(S:World->Prop)(hm:P.follows .mixedOrders=true)(hS:S w.drew)(h:S w.drew->aw P .any ops Q S n ops.size (Array.replicate ops.size false) a w.drew):(Code.region id ops true).wp P Q a w:=
 wp_region_any hm (aw.any _ _ _ _ (h hS))
theorem RF{S:Nat->Prop}{a b c:World}(_:Ch S b c)(h:Below a.heap.size a b):Below a.heap.size a b:=h
end
@[go_sem high] theorem ZaV {P:Program} (w:World) (ts:Array TypeId) (t:TypeId) (k k' k'':IntKind) (x y z:Int):
 (Builtin.max_ ts t #[.int k x, .int k' y, .int k'' z]).run P w= .ok (.int k (max x (max y z))) w:=by
 have e:∀x y:Int,(if y>x then y else x)=max x y:=λx y=>by
  rw[Int.max_def];split<;>split<;>omega
 simp[Builtin.max_,Builtin.max2,e,Int.max_assoc]
def iH(q th NN:Nat)(c:TC):Array Value:=bV q th c (cr c.key) ((aF NN).rt c) {ke with aa:=0} none none 0 false
def opV(c:TC):Value:=
 .agg #[.pointer none, .int .i64 0, .int .u8 ((c.kind:Int)+1), .int .u64 c.key, .int .u64 c.od, .int .u64 c.nw, .int .u64 0, .int .u64 0, .int .u8 0, .pointer none, .pointer none,
  .int .u64 0, .int .u64 0, .int .u64 0, .int .i64 0, .int .u64 0, .int .u64 0, .int .u64 0, .int .u64 0, .int .u64 0, .int .u64 0, .int .u64 0, .int .u64 0, .int .u64 0, .int .u64 0, .int .u64 0, .int .u64 0, .int .i64 0, .bool false]
section
variable{κ dL:Nat->Nat}{K:Nat->Prop}{r p d q a gm g n NN lines N i:Nat}{t:Nat->Nat}{w w':World}{σ σ':PwS}{bs:Nat->Option Nat}{size:Int}
def fw(q d p NN lines th:Nat)(c:TC)(bs:Nat->Option Nat)(w:World)(e:Ending)(w':World):Prop:=
 ∃a,e= .returned (.tuple #[.pointer (some ⟨a,0,none⟩), .int .i64 0])/\w.heap.size<=a/\CB w' a 107 (iH q th NN c)/\CB w' q 117 (aK d p NN lines (λi=>if i=th then some a else bs i))/\Ch (At q) w w'
theorem tQ(H:bB K p d t 0 32 size w σ)(hq:CB w q 117 (aK d p NN lines bs))(th:Nat)(bQ:th<8)(jf:bs th=none)(cM:(σ.dev.a8 th).err=0)(c:TC)(hk:0<=c.key/\c.key<1099511627776)(ho:0<=c.od/\c.od<1099511627776)(hn:0<=c.nw/\c.nw<1099511627776):
 Calls prog 42 #[.pointer (some ⟨q,0,none⟩), .int .i64 (th:Int),opV c] w (fw q d p NN lines th c bs w):=by
 have JX:Hid (∀W,Below w.heap.size w W->Calls prog 37 #[.pointer (some ⟨d,0,none⟩), .int .i64 (th:Int)] W λe w'=>e= .returned (.pointer (some ⟨t th,0,none⟩))/\W=w'):=λW hW=>by
  obtain⟨role,bb,h,hK⟩:=H.ko hW;exact kL h.dv th bQ
 have jx:Hid (∀W,Below w.heap.size w W->Calls prog 65 #[.pointer (some ⟨t th,0,none⟩)] W λe w'=>e= .returned (.int .i64 0)/\W=w'):=λW hW=>by
  obtain⟨role,bb,h,hK⟩:=H.ko hW;have:=LQ h.dv th bQ;rwa[cM]at this
 obtain⟨c0,c1,c2,c3,c4,c5,ql⟩:=hq.tac;have qt:=hq.TP bQ;rw[jf,qT]at qt;have UB:(th:Int)<8:=by omega
 have ZcH:¬(th:Int)<0:=by omega
 have I9:¬(8:Int)<=(th:Int):=by omega
 have hS:=ag (λa=>v7 (d:=d) (p:=p) (lines:=lines) (NN:=NN) (bs:=bs) bQ (some a));have HQ:=ag hq;have HH:=ag (λW:World=>OT W c.key ⟨hk.1,by omega⟩);have Sn:=ag (λW:World=>ET W NN (cr c.key));have eO:(cr c.key>>>32)%8<8:=yP _ (by decide);have BC:=ag (λW:World=>C4 W NN ((cr c.key>>>32)%8) ae);have mJ:(8:Int)*((eJ 256 ((cr c.key>>>32)%8):Nat):Int)=(8:Int)*(((aF NN).rt c:Nat):Int):=rfl;have hmx:¬(1099511627776:Int)<=max c.key (max c.od c.nw):=by omega
 have HCE:Hid (∀z y:Int,z=((cr c.key:Nat):Int)->y=8*(((aF NN).rt c:Nat):Int)->(#[.pointer (some ⟨q,0,none⟩), .int .i64 th, .int .u8 ((c.kind:Int)+1), .int .u64 c.key, .int .u64 c.od, .int .u64 c.nw, .int .u64 z, .int .u64 y, .int .u8 0, .pointer none, .pointer none,
  .int .u64 0, .int .u64 0, .int .u64 0, .int .i64 0, .int .u64 0, .int .u64 0, .int .u64 0, .int .u64 0, .int .u64 0, .int .u64 0, .int .u64 0, .int .u64 0, .int .u64 0, .int .u64 0, .int .u64 0, .int .u64 0, .int .i64 0, .bool false]:Array Value)=iH q th NN c):=λz y h1 h2=>by subst h1;subst h2;rfl
 obtain⟨b,hb⟩:=aH ((cr c.key>>>32)%8);rw[hb]at Sn eO BC mJ;obtain⟨hm,hhm⟩:=aH (cr c.key);rw[hhm]at HH Sn HCE;rw[mJ]at BC;obtain⟨rt,Zbj⟩:=aH ((8:Int)*(((aF NN).rt c:Nat):Int));rw[Zbj]at BC HCE;clear mJ Zbj hhm hb;unfold opV;obtain⟨od,xL⟩:=aH c.od;obtain⟨nw,pw⟩:=aH c.nw;obtain⟨k,Ek⟩:=aH c.key;obtain⟨kd,jb⟩:=aH ((c.kind:Int)+1);rw[Ek]at HH;rw[Ek,xL,pw]at hmx;rw[Ek,xL,pw,jb]at HCE;rw[Ek,xL,pw,jb];clear H hq cM xL pw Ek jb;go_enter func42,ntmps42
 go_upto_region 11 with(first
  |(go_at_call 37;(with_reducible refine(JX.out _ aC).mono ?_);rintro e w' ⟨rfl,rfl⟩)
  |(go_at_call 65;(with_reducible refine(jx.out _ aC).mono ?_);rintro e w' ⟨rfl,rfl⟩)
  |(go_at_call 66;(with_reducible refine(HH.out _).mono ?_);rintro e w' ⟨rfl,rfl⟩))
 have iA:CB (w.alloc (.cells #[.pointer (some ⟨q,0,none⟩), .int .i64 th, .int .u8 kd, .int .u64 k, .int .u64 od, .int .u64 nw, .int .u64 (hm:Int), .int .u64 0, .int .u8 0, .pointer none, .pointer none, .int .u64 0, .int .u64 0, .int .u64 0, .int .i64 0, .int .u64 0, .int .u64 0, .int .u64 0, .int .u64 0, .int .u64 0, .int .u64 0, .int .u64 0, .int .u64 0, .int .u64 0, .int .u64 0, .int .u64 0, .int .u64 0, .int .i64 0, .bool false] 107)) w.heap.size 107 #[.pointer (some ⟨q,0,none⟩), .int .i64 th, .int .u8 kd, .int .u64 k, .int .u64 od, .int .u64 nw, .int .u64 (hm:Int), .int .u64 0, .int .u8 0, .pointer none, .pointer none, .int .u64 0, .int .u64 0, .int .u64 0, .int .i64 0, .int .u64 0, .int .u64 0, .int .u64 0, .int .u64 0, .int .u64 0, .int .u64 0, .int .u64 0, .int .u64 0, .int .u64 0, .int .u64 0, .int .u64 0, .int .u64 0, .int .i64 0, .bool false]:=CB.br _ _ _ rfl;have Xg:CB (w.alloc (.cells #[.pointer (some ⟨q,0,none⟩), .int .i64 th, .int .u8 kd, .int .u64 k, .int .u64 od, .int .u64 nw, .int .u64 (hm:Int), .int .u64 0, .int .u8 0, .pointer none, .pointer none, .int .u64 0, .int .u64 0, .int .u64 0, .int .i64 0, .int .u64 0, .int .u64 0, .int .u64 0, .int .u64 0, .int .u64 0, .int .u64 0, .int .u64 0, .int .u64 0, .int .u64 0, .int .u64 0, .int .u64 0, .int .u64 0, .int .i64 0, .bool false] 107)) q 117 (aK d p NN lines bs):=HQ.out.below (ai (bZ _ _) _);have N7:Below w.heap.size w (w.alloc (.cells #[.pointer (some ⟨q,0,none⟩), .int .i64 th, .int .u8 kd, .int .u64 k, .int .u64 od, .int .u64 nw, .int .u64 (hm:Int), .int .u64 0, .int .u8 0, .pointer none, .pointer none, .int .u64 0, .int .u64 0, .int .u64 0, .int .i64 0, .int .u64 0, .int .u64 0, .int .u64 0, .int .u64 0, .int .u64 0, .int .u64 0, .int .u64 0, .int .u64 0, .int .u64 0, .int .u64 0, .int .u64 0, .int .u64 0, .int .i64 0, .bool false] 107)):=ai (bZ _ _) _;obtain⟨W1,fV⟩:=aH (w.alloc (.cells #[.pointer (some ⟨q,0,none⟩), .int .i64 th, .int .u8 kd, .int .u64 k, .int .u64 od, .int .u64 nw, .int .u64 (hm:Int), .int .u64 0, .int .u8 0, .pointer none, .pointer none, .int .u64 0, .int .u64 0, .int .u64 0, .int .i64 0, .int .u64 0, .int .u64 0, .int .u64 0, .int .u64 0, .int .u64 0, .int .u64 0, .int .u64 0, .int .u64 0, .int .u64 0, .int .u64 0, .int .u64 0, .int .u64 0, .int .i64 0, .bool false] 107));rw[fV]at iA Xg N7 |-;obtain⟨a,ha⟩:∃a,a=w.heap.size:=⟨_,rfl⟩;have WI:q≠a:=by omega
 rw[<-ha]at iA |-;clear fV c0 c1 c2 c3 c4 c5 ql qt;obtain⟨c0,c1,c2,c3,c4,c5,ql⟩:=Xg.tac;have al:=iA.lt;have a6:W1.cell? ⟨a,6,none⟩=some (.int .u64 (hm:Int)):=iA.cell 6;have a7:W1.cell? ⟨a,7,none⟩=some (.int .u64 0):=iA.cell 7;have af:=iA.frozen 7;have HQ1:=ag Xg;have tN:=ag iA;have dZ:=ag N7;have HA:=ag ha;clear Xg iA N7 ha JX jx HH;unfold uo at Sn BC
 go_region_with (first
  |(go_at_call 67;(with_reducible refine(Sn.out _).mono ?_);rintro e w1 ⟨rfl,hb⟩;obtain⟨x,rfl⟩:=aE hb;clear hb)
  |(go_at_call 60;(with_reducible refine(BC.out _).mono ?_);rintro e w2 ⟨rfl,hb⟩;obtain⟨y,rfl⟩:=aE hb;clear hb))
 all_goals
  have wQ:Below W1.heap.size W1 y.w:=by exact aC
  have cz:CB (y.w.setCell ⟨a,7,none⟩ (.int .u64 rt)) a 107 #[.pointer (some ⟨q,0,none⟩), .int .i64 th, .int .u8 kd, .int .u64 k, .int .u64 od, .int .u64 nw, .int .u64 (hm:Int), .int .u64 rt, .int .u8 0, .pointer none, .pointer none, .int .u64 0, .int .u64 0, .int .u64 0, .int .i64 0, .int .u64 0, .int .u64 0, .int .u64 0, .int .u64 0, .int .u64 0, .int .u64 0, .int .u64 0, .int .u64 0, .int .u64 0, .int .u64 0, .int .u64 0, .int .u64 0, .int .i64 0, .bool false]:=(tN.out.below wQ).set 7 _;have hQ2:CB (y.w.setCell ⟨a,7,none⟩ (.int .u64 rt)) q 117 (aK d p NN lines bs):=(HQ1.out.below wQ).far (p:=⟨a,7,none⟩) WI _
  have hH2:Ch (At q) w (y.w.setCell ⟨a,7,none⟩ (.int .u64 rt)):=by
   have h5:Ch (At q) w y.w:=(Ch.au (S:=At q) dZ.out).trans (Ch.au (S:=At q) wQ) (λb hb _=>hb);have h6:=HA.out;exact⟨h5.os,h5.tape,h5.output,by simpa using h5.size,λb hb hS=>(Below.heap_setCell _ _ _ _ (by show b≠a;omega)).trans (h5.block b hb hS)⟩
  obtain⟨W2,eM⟩:=aH (y.w.setCell ⟨a,7,none⟩ (.int .u64 rt));rw[eM]at cz hQ2 hH2 |-;clear eM wQ c0 c1 c2 c3 c4 c5 ql a6 a7 af al Sn BC;have ql:=hQ2.lt;have qt:=hQ2.TP bQ;rw[jf,qT]at qt;have qf:=hQ2.frozen (6+th);have dh:=ag cz;have HQ2:=ag hQ2;have HH2:=ag hH2;clear cz hQ2 hH2;go_wp2;have h2:=HQ2.out.set (6+th) (fu (some a));rw[hS.out]at h2;refine bH (v:= .tuple #[.pointer (some ⟨a,0,none⟩), .int .i64 0]) (by simp[results,results42,go_sem]) rfl ⟨a,rfl,BZ HA.out.symm,?_,h2,HH2.out.bj _ _⟩;rw[<-HCE.out _ _ rfl rfl];exact dh.out.far (p:=⟨q,6+th,none⟩) (cC WI) _
end
def WA(kind key val old:Int):TC:=⟨(kind%4).toNat,key%1099511627776,val%1099511627776,old%1099511627776⟩
section
variable{κ dL:Nat->Nat}{K:Nat->Prop}{r p d q a gm g n NN lines N i:Nat}{t:Nat->Nat}{w w':World}{σ σ':PwS}{bs:Nat->Option Nat}{size:Int}
theorem OV(H:bB K p d t 0 32 size w σ)(hq:CB w q 117 (aK d p NN lines bs))(th:Nat)(bQ:th<8)(jf:bs th=none)(cM:(σ.dev.a8 th).err=0)(c:TC)(hc:c.kind=0){k:Int}(ek:c.key=k)(hk:0<=k/\k<1099511627776):
 Calls prog 18 #[.pointer (some ⟨q,0,none⟩), .int .i64 (th:Int), .int .u64 k] w (fw q d p NN lines th c bs w):=by
 have xL:c.od=0:=by unfold TC.od;rw[hc];simp
 have pw:c.nw=0:=by unfold TC.nw;rw[hc];simp
 have h0:=tQ H hq th bQ jf cM c (by rw[ek];exact hk) (by rw[xL];omega) (by rw[pw];omega);unfold opV at h0;rw[xL,pw,ek,hc]at h0;have HB:Hid (Calls prog 42 #[.pointer (some ⟨q,0,none⟩), .int .i64 (th:Int), .agg #[.pointer none, .int .i64 0, .int .u8 1, .int .u64 k, .int .u64 0, .int .u64 0, .int .u64 0, .int .u64 0, .int .u8 0, .pointer none, .pointer none, .int .u64 0, .int .u64 0, .int .u64 0, .int .i64 0, .int .u64 0, .int .u64 0, .int .u64 0, .int .u64 0, .int .u64 0, .int .u64 0, .int .u64 0, .int .u64 0, .int .u64 0, .int .u64 0, .int .u64 0, .int .u64 0, .int .i64 0, .bool false]] w (fw q d p NN lines th c bs w)):=h0;clear H hq jf cM bQ h0;go_enter func18,ntmps18
 go_wp2_with (go_at_call 42;(with_reducible refine HB.out.mono ?_);rintro e w1 ⟨a,rfl,h1,h2,h3,h4⟩;have H1:=ag h1;have H2:=ag h2;have H3:=ag h3;have H4:=ag h4;clear h1 h2 h3 h4)
 exact bH (v:= .tuple #[.pointer (some ⟨a,0,none⟩), .int .i64 0]) (by simp[results,results18,go_sem]) rfl ⟨a,rfl,H1.out,H2.out,H3.out,H4.out⟩
theorem OQ(H:bB K p d t 0 32 size w σ)(hq:CB w q 117 (aK d p NN lines bs))(th:Nat)(bQ:th<8)(jf:bs th=none)(cM:(σ.dev.a8 th).err=0)(c:TC)(hc:c.kind=1){k v:Int}(ek:c.key=k)(ev:c.val=v)(hk:0<=k/\k<1099511627776)(hv:0<=v/\v<1099511627776):
 Calls prog 19 #[.pointer (some ⟨q,0,none⟩), .int .i64 (th:Int), .int .u64 k, .int .u64 v] w (fw q d p NN lines th c bs w):=by
 have xL:c.od=0:=by unfold TC.od;rw[hc];simp
 have pw:c.nw=v:=by unfold TC.nw;rw[hc];rw[aA smQ];exact ev
 have h0:=tQ H hq th bQ jf cM c (by rw[ek];exact hk) (by rw[xL];omega) (by rw[pw];omega);unfold opV at h0;rw[xL,pw,ek,hc]at h0;have HB:Hid (Calls prog 42 #[.pointer (some ⟨q,0,none⟩), .int .i64 (th:Int), .agg #[.pointer none, .int .i64 0, .int .u8 2, .int .u64 k, .int .u64 0, .int .u64 v, .int .u64 0, .int .u64 0, .int .u8 0, .pointer none, .pointer none, .int .u64 0, .int .u64 0, .int .u64 0, .int .i64 0, .int .u64 0, .int .u64 0, .int .u64 0, .int .u64 0, .int .u64 0, .int .u64 0, .int .u64 0, .int .u64 0, .int .u64 0, .int .u64 0, .int .u64 0, .int .u64 0, .int .i64 0, .bool false]] w (fw q d p NN lines th c bs w)):=h0;clear H hq jf cM bQ h0;go_enter func19,ntmps19
 go_wp2_with (go_at_call 42;(with_reducible refine HB.out.mono ?_);rintro e w1 ⟨a,rfl,h1,h2,h3,h4⟩;have H1:=ag h1;have H2:=ag h2;have H3:=ag h3;have H4:=ag h4;clear h1 h2 h3 h4)
 exact bH (v:= .tuple #[.pointer (some ⟨a,0,none⟩), .int .i64 0]) (by simp[results,results19,go_sem]) rfl ⟨a,rfl,H1.out,H2.out,H3.out,H4.out⟩
theorem BL(H:bB K p d t 0 32 size w σ)(hq:CB w q 117 (aK d p NN lines bs))(th:Nat)(bQ:th<8)(jf:bs th=none)(cM:(σ.dev.a8 th).err=0)(c:TC)(hc:c.kind=2){k:Int}(ek:c.key=k)(hk:0<=k/\k<1099511627776):
 Calls prog 20 #[.pointer (some ⟨q,0,none⟩), .int .i64 (th:Int), .int .u64 k] w (fw q d p NN lines th c bs w):=by
 have xL:c.od=0:=by unfold TC.od;rw[hc];simp
 have pw:c.nw=0:=by unfold TC.nw;rw[hc];simp
 have h0:=tQ H hq th bQ jf cM c (by rw[ek];exact hk) (by rw[xL];omega) (by rw[pw];omega);unfold opV at h0;rw[xL,pw,ek,hc]at h0;have HB:Hid (Calls prog 42 #[.pointer (some ⟨q,0,none⟩), .int .i64 (th:Int), .agg #[.pointer none, .int .i64 0, .int .u8 3, .int .u64 k, .int .u64 0, .int .u64 0, .int .u64 0, .int .u64 0, .int .u8 0, .pointer none, .pointer none, .int .u64 0, .int .u64 0, .int .u64 0, .int .i64 0, .int .u64 0, .int .u64 0, .int .u64 0, .int .u64 0, .int .u64 0, .int .u64 0, .int .u64 0, .int .u64 0, .int .u64 0, .int .u64 0, .int .u64 0, .int .u64 0, .int .i64 0, .bool false]] w (fw q d p NN lines th c bs w)):=h0;clear H hq jf cM bQ h0;go_enter func20,ntmps20
 go_wp2_with (go_at_call 42;(with_reducible refine HB.out.mono ?_);rintro e w1 ⟨a,rfl,h1,h2,h3,h4⟩;have H1:=ag h1;have H2:=ag h2;have H3:=ag h3;have H4:=ag h4;clear h1 h2 h3 h4)
 exact bH (v:= .tuple #[.pointer (some ⟨a,0,none⟩), .int .i64 0]) (by simp[results,results20,go_sem]) rfl ⟨a,rfl,H1.out,H2.out,H3.out,H4.out⟩
theorem OY(H:bB K p d t 0 32 size w σ)(hq:CB w q 117 (aK d p NN lines bs))(th:Nat)(bQ:th<8)(jf:bs th=none)(cM:(σ.dev.a8 th).err=0)(c:TC)(hc:c.kind=3){k o v:Int}(ek:c.key=k)(eo:c.old=o)(ev:c.val=v)(hk:0<=k/\k<1099511627776)(ho:0<=o/\o<1099511627776)(hv:0<=v/\v<1099511627776):
 Calls prog 21 #[.pointer (some ⟨q,0,none⟩), .int .i64 (th:Int), .int .u64 k, .int .u64 o, .int .u64 v] w (fw q d p NN lines th c bs w):=by
 have xL:c.od=o:=by unfold TC.od;rw[hc];rw[aA rfl];exact eo
 have pw:c.nw=v:=by unfold TC.nw;rw[hc];rw[aA smQ];exact ev
 have h0:=tQ H hq th bQ jf cM c (by rw[ek];exact hk) (by rw[xL];omega) (by rw[pw];omega);unfold opV at h0;rw[xL,pw,ek,hc]at h0;have HB:Hid (Calls prog 42 #[.pointer (some ⟨q,0,none⟩), .int .i64 (th:Int), .agg #[.pointer none, .int .i64 0, .int .u8 4, .int .u64 k, .int .u64 o, .int .u64 v, .int .u64 0, .int .u64 0, .int .u8 0, .pointer none, .pointer none, .int .u64 0, .int .u64 0, .int .u64 0, .int .i64 0, .int .u64 0, .int .u64 0, .int .u64 0, .int .u64 0, .int .u64 0, .int .u64 0, .int .u64 0, .int .u64 0, .int .u64 0, .int .u64 0, .int .u64 0, .int .u64 0, .int .i64 0, .bool false]] w (fw q d p NN lines th c bs w)):=h0;clear H hq jf cM bQ h0;go_enter func21,ntmps21
 go_wp2_with (go_at_call 42;(with_reducible refine HB.out.mono ?_);rintro e w1 ⟨a,rfl,h1,h2,h3,h4⟩;have H1:=ag h1;have H2:=ag h2;have H3:=ag h3;have H4:=ag h4;clear h1 h2 h3 h4)
 exact bH (v:= .tuple #[.pointer (some ⟨a,0,none⟩), .int .i64 0]) (by simp[results,results21,go_sem]) rfl ⟨a,rfl,H1.out,H2.out,H3.out,H4.out⟩
end
theorem qq(w:World)(a:Int)(ha: -9223372036854775808<=a/\a<9223372036854775808)(n:Int)(hn:1<=n/\n<=1000):Calls prog 17 #[.int .i64 a, .int .i64 n] w λr w'=>r= .returned (.int .i64 (a%n))/\w=w':=by
 obtain⟨a1,a2⟩:=ha;obtain⟨n1,n2⟩:=hn;have h1: -n<a.tmod n:=by have:=Int.lt_tmod_of_pos a (show 0<n by omega);omega
 have h2:a.tmod n<n:=Int.tmod_lt_of_pos a ae;have hw:IntKind.i64.wrap (a.tmod n+n)=a.tmod n+n:=b9 _ ae
 have hr:(a.tmod n+n)%n=a%n:=by
  rw[Int.add_emod_right];have:=Int.tmod_add_mul_tdiv a n;have h3:a%n=(a.tmod n+n*a.tdiv n)%n:=by rw[this]
  rw[h3,Int.add_mul_emod_self_left]
 have F2:(n==0)=false:=by simp;omega
 have ZeC:¬n=0:=by omega
 have HR:=ag hr;clear hr;go_enter func17,ntmps17
 go_wp2;go_ret;exact⟨T_ HR.out,rfl⟩
structure aW where
 kind:Int
 a8:Int
 key:Int
 val:Int
 old:Int
def aW.c(c:aW):TC:=WA c.kind c.key c.val c.old
structure oF(c:aW):Prop where
 kd: -9223372036854775808<=c.kind/\c.kind<9223372036854775808
 th: -9223372036854775808<=c.a8/\c.a8<9223372036854775808
 ky:0<=c.key/\c.key<18446744073709551616
 vl:0<=c.val/\c.val<18446744073709551616
 od:0<=c.old/\c.old<18446744073709551616
def Pq(c:aW):Value:= .agg #[.int .i64 c.kind, .int .i64 c.a8, .int .u64 c.key, .int .u64 c.val, .int .u64 c.old]
def tF(c:TC)(th:Nat):TM:=⟨c,th, .start,0,0⟩
section
variable{κ dL:Nat->Nat}{K:Nat->Prop}{r p d q a gm g n NN lines N i:Nat}{t:Nat->Nat}{w w':World}{σ σ':PwS}{bs:Nat->Option Nat}{size:Int}
def LN(q d p NN lines th:Nat)(c:TC)(bs:Nat->Option Nat)(w:World)(e:Ending)(w':World):Prop:=
 ∃gm a,e= .returned (.tuple #[.pointer (some ⟨gm,0,none⟩), .int .i64 0])/\w.heap.size<=gm/\w.heap.size<=a/\a≠gm/\CB w' gm 40 (zi (tF c th) a)/\CB w' a 107 (iH q th NN c)/\CB w' q 117 (aK d p NN lines (λi=>if i=th then some a else bs i))/\Ch (At q) w w'
theorem fw.back{th:Nat}{c:TC}{W:World}{e:Ending}(hW:Below w.heap.size w W)(h:fw q d p NN lines th c bs W e w'):fw q d p NN lines th c bs w e w':=by
 obtain⟨a,h0,h1,h2,h3,h4⟩:=h;exact⟨a,h0,f_ hW.size h1,h2,h3,(Ch.au (S:=At q) hW).trans h4 (λb hb _=>hb)⟩
def IP(kd k v o:Int):Array Value:=
 #[.pointer none, .int .i64 kd, .int .u64 k, .int .u64 v, .int .u64 o, .int .i64 0, .int .i64 0, .bool false, .int .u64 0, .int .i64 0, .bool false, .bool false]
theorem Gk(H:bB K p d t 0 32 size w σ)(hq:CB w q 117 (aK d p NN lines bs))(th:Nat)(bQ:th<8)(jf:bs th=none)(cM:(σ.dev.a8 th).err=0)(c:aW)(hc:oF c):
 Calls prog 31 #[.pointer (some ⟨q,0,none⟩),Pq c, .int .i64 (th:Int)] w (LN q d p NN lines th c.c bs w):=by
 have gh:c.c=c.c:=rfl;obtain⟨kind,a8,key,val,old⟩:=c;obtain⟨b1,b2,b3,b4,b5⟩:=hc;dsimp only at b1 b2 b3 b4 b5;have e1:=yj key b3;have e2:=yj val b4;have e3:=yj old b5;unfold Pq;dsimp only;have hC:aW.c ⟨kind,a8,key,val,old⟩=⟨(kind%4).toNat,key%1099511627776,val%1099511627776,old%1099511627776⟩:=rfl;rw[hC];have r1:0<=key%1099511627776/\key%1099511627776<1099511627776:=by omega
 have r2:0<=val%1099511627776/\val%1099511627776<1099511627776:=by omega
 have r3:0<=old%1099511627776/\old%1099511627776<1099511627776:=by omega
 have HM:=ag (λW:World=>qq W kind b1 4 ae);have Bl:0<=kind%4/\kind%4<4:=by omega
 obtain⟨k,hk⟩:=aH (key%1099511627776);obtain⟨v,hv⟩:=aH (val%1099511627776);obtain⟨o,ho⟩:=aH (old%1099511627776);obtain⟨kd,jb⟩:=aH (kind%4);rw[hk]at e1 r1 |-;rw[hv]at e2 r2 |-;rw[ho]at e3 r3 |-;rw[jb]at HM Bl |-;clear hC gh hk hv ho jb;have gg:=hq.lt;have BF:=ag (λ(W:World) (hW:Below w.heap.size w W) (h0:kd=0)=>OV (H.ko hW) (hq.below hW) th bQ jf cM ⟨kd.toNat,k,v,o⟩ (by rw[h0];rfl) (k:=k) rfl r1);have HPU:=ag (λ(W:World) (hW:Below w.heap.size w W) (h0:kd=1)=>OQ (H.ko hW) (hq.below hW) th bQ jf cM ⟨kd.toNat,k,v,o⟩ (by rw[h0];rfl) (k:=k) (v:=v) rfl rfl r1 r2);have HDE:=ag (λ(W:World) (hW:Below w.heap.size w W) (h0:kd=2)=>BL (H.ko hW) (hq.below hW) th bQ jf cM ⟨kd.toNat,k,v,o⟩ (by rw[h0];rfl) (k:=k) rfl r1);have rS:=ag (λ(W:World) (hW:Below w.heap.size w W) (h0:kd=3)=>OY (H.ko hW) (hq.below hW) th bQ jf cM ⟨kd.toNat,k,v,o⟩ (by rw[h0];rfl) (k:=k) (o:=o) (v:=v) rfl rfl rfl r1 r3 r2);clear H hq jf cM bQ;go_enter func31,ntmps31
 go_upto_region 1 with(fail)
 have g0:(w.alloc (.cells #[.int .i64 kind, .int .i64 a8, .int .u64 key, .int .u64 val, .int .u64 old] 33)).cell? ⟨w.heap.size,0,none⟩=some (.int .i64 kind):=by go_simp
 have g2:(w.alloc (.cells #[.int .i64 kind, .int .i64 a8, .int .u64 key, .int .u64 val, .int .u64 old] 33)).cell? ⟨w.heap.size,2,none⟩=some (.int .u64 key):=by go_simp
 have g3:(w.alloc (.cells #[.int .i64 kind, .int .i64 a8, .int .u64 key, .int .u64 val, .int .u64 old] 33)).cell? ⟨w.heap.size,3,none⟩=some (.int .u64 val):=by go_simp
 have g4:(w.alloc (.cells #[.int .i64 kind, .int .i64 a8, .int .u64 key, .int .u64 val, .int .u64 old] 33)).cell? ⟨w.heap.size,4,none⟩=some (.int .u64 old):=by go_simp
 have gl:w.heap.size<(w.alloc (.cells #[.int .i64 kind, .int .i64 a8, .int .u64 key, .int .u64 val, .int .u64 old] 33)).heap.size:=by simp
 have gs:(w.alloc (.cells #[.int .i64 kind, .int .i64 a8, .int .u64 key, .int .u64 val, .int .u64 old] 33)).heap.size=w.heap.size+1:=by simp
 have gB:Below w.heap.size w (w.alloc (.cells #[.int .i64 kind, .int .i64 a8, .int .u64 key, .int .u64 val, .int .u64 old] 33)):=ai (bZ _ _) _;obtain⟨W0,nR⟩:=aH (w.alloc (.cells #[.int .i64 kind, .int .i64 a8, .int .u64 key, .int .u64 val, .int .u64 old] 33));rw[nR]at g0 g2 g3 g4 gl gs gB |-;clear nR
 go_region_held3 (λw'=>w'.cell? ⟨w.heap.size,0,none⟩=some (.int .i64 kind)/\w'.cell? ⟨w.heap.size,2,none⟩=some (.int .u64 key)/\w'.cell? ⟨w.heap.size,3,none⟩=some (.int .u64 val)/\w'.cell? ⟨w.heap.size,4,none⟩=some (.int .u64 old)/\w.heap.size<w'.heap.size)
  ((refine⟨?_,?_,?_,?_,?_⟩<;>first|assumption|(go_simp;done)|(simp;omega)))
  (first|(go_at_call 17;(with_reducible refine(HM.out _).mono ?_);rintro e w1 ⟨rfl,rfl⟩))
 have SX:CB (W0.alloc (.cells #[.pointer none, .int .i64 kd, .int .u64 k, .int .u64 v, .int .u64 o, .int .i64 0, .int .i64 0, .bool false, .int .u64 0, .int .i64 0, .bool false, .bool false] 40)).drew (w.heap.size+1) 40 (IP kd k v o):=(show CB (W0.alloc (.cells #[.pointer none, .int .i64 kd, .int .u64 k, .int .u64 v, .int .u64 o, .int .i64 0, .int .i64 0, .bool false, .int .u64 0, .int .i64 0, .bool false, .bool false] 40)) (w.heap.size+1) 40 (IP kd k v o)from CB.br _ _ _ gs.symm).drewN 1;have ZbY:Below W0.heap.size W0 (W0.alloc (.cells #[.pointer none, .int .i64 kd, .int .u64 k, .int .u64 v, .int .u64 o, .int .i64 0, .int .i64 0, .bool false, .int .u64 0, .int .i64 0, .bool false, .bool false] 40)).drew:=by show Below _ _ _;exact aC
 have dZ:=ag (gB.trans (ZbY.mono ae));obtain⟨W1,fV⟩:=aH ((W0.alloc (.cells #[.pointer none, .int .i64 kd, .int .u64 k, .int .u64 v, .int .u64 o, .int .i64 0, .int .i64 0, .bool false, .int .u64 0, .int .i64 0, .bool false, .bool false] 40)).drew);rw[fV]at SX dZ |-;obtain⟨gm,DL⟩:∃gm,gm=w.heap.size+1:=⟨_,rfl⟩;rw[<-DL]at SX |-;clear fV ZbY g0 g2 g3 g4 gl gB e1 e2 e3 HM b1 b2 b3 b4 b5;have hgq:gm≠q:=by omega
 have g0:W1.cell? ⟨gm,0,none⟩=some (.pointer none):=SX.cell 0;have g1:W1.cell? ⟨gm,1,none⟩=some (.int .i64 kd):=SX.cell 1;have g2:W1.cell? ⟨gm,2,none⟩=some (.int .u64 k):=SX.cell 2;have g3:W1.cell? ⟨gm,3,none⟩=some (.int .u64 v):=SX.cell 3;have g4:W1.cell? ⟨gm,4,none⟩=some (.int .u64 o):=SX.cell 4;have gl:=SX.lt;have Td:=ag SX;have HGM:=ag DL
 have iU:Hid (∀(w1:World) (a:Nat),W1.heap.size<=a->CB w1 a 107 (iH q th NN ⟨kd.toNat,k,v,o⟩)->CB w1 q 117 (aK d p NN lines (λi=>if i=th then some a else bs i))->Ch (At q) W1 w1->
  LN q d p NN lines th ⟨kd.toNat,k,v,o⟩ bs w (.returned (.tuple #[.pointer (some ⟨gm,0,none⟩), .int .i64 0])) (w1.setCell ⟨gm,0,none⟩ (.pointer (some ⟨a,0,none⟩)))):=λw1 a h1 h2 h3 h4=>by
  have hl:=Td.out.lt;have iA:=Td.out.keep (h4.block _ hl (λhx=>hgq hx));have ZbS:a≠gm:=by omega
  have hm:=HGM.out;refine⟨gm,a,rfl,by omega,by omega,ZbS,?_,?_,h3.far (p:=⟨gm,0,none⟩) (cC hgq) _,?_⟩
  . have:=iA.set 0 (.pointer (some ⟨a,0,none⟩))
    have e:(IP kd k v o).setIfInBounds 0 (.pointer (some ⟨a,0,none⟩))=zi (tF ⟨kd.toNat,k,v,o⟩ th) a:=by
     unfold zi tF;dsimp only;rw[Int.toNat_of_nonneg Bl.1];rfl
    rw[e]at this;exact this
  . exact h2.far (p:=⟨gm,0,none⟩) ZbS _
  . have h5:Ch (At q) w w1:=(Ch.au (S:=At q) dZ.out).trans h4 (λb hb _=>hb)
    exact⟨h5.os,h5.tape,h5.output,by simpa using h5.size,λb hb hS=>(Below.heap_setCell _ _ _ _ (by show b≠gm;omega)).trans (h5.block b hb hS)⟩
 clear gs DL SX gg;have h4c:kd=0\/kd=1\/kd=2\/kd=3:=by omega
 rcases h4c with rfl|rfl|rfl|rfl
 . have Se:=ag (λ(W:World) (hW:Below W1.heap.size W1 W)=>(BF.out W (dZ.out.trans (hW.mono dZ.out.size)) rfl).mono (λe w' h=>fw.back hW h))
   clear BF HPU HDE rS g0 g4;go_wp2_with (go_at_call 18;(with_reducible refine(Se.out _ aC).mono ?_);rintro e w1 ⟨a,rfl,h1,h2,h3,h4⟩;have H1:=ag h1;have H2:=ag h2;have H3:=ag h3;have H4:=ag h4;have hG:CB w1 gm 40 (IP 0 k v o):=(Td.out.keep (h4.block _ Td.out.lt (λhx=>hgq hx)));have y0:w1.cell? ⟨gm,0,none⟩=some (.pointer none):=hG.cell 0;have y1:w1.cell? ⟨gm,1,none⟩=some (.int .i64 0):=hG.cell 1;have y2:w1.cell? ⟨gm,2,none⟩=some (.int .u64 k):=hG.cell 2;have y3:w1.cell? ⟨gm,3,none⟩=some (.int .u64 v):=hG.cell 3;have y4:w1.cell? ⟨gm,4,none⟩=some (.int .u64 o):=hG.cell 4;have yf:=hG.frozen 0;have yl:=hG.lt;clear h1 h2 h3 h4 hG)
   exact bH (v:= .tuple #[.pointer (some ⟨gm,0,none⟩), .int .i64 0]) (by simp[results,results31,go_sem]) rfl (iU.out w1 a H1.out H2.out H3.out H4.out)
 . have Sd:=ag (λ(W:World) (hW:Below W1.heap.size W1 W)=>(HPU.out W (dZ.out.trans (hW.mono dZ.out.size)) rfl).mono (λe w' h=>fw.back hW h))
   clear BF HPU HDE rS g0 g4;go_upto_region 8 with(fail)
   go_region_held3 (λw'=>w'.cell? ⟨gm,2,none⟩=some (.int .u64 k)/\w'.cell? ⟨gm,3,none⟩=some (.int .u64 v)/\gm<w'.heap.size)
    ((refine⟨?_,?_,?_⟩<;>first|assumption|(go_simp;done)|(simp;omega)))
    (first|(go_at_call 19;(with_reducible refine(Sd.out _ aC).mono ?_);rintro e w1 ⟨a,rfl,h1,h2,h3,h4⟩;have H1:=ag h1;have H2:=ag h2;have H3:=ag h3;have H4:=ag h4;have hG:CB w1 gm 40 (IP 1 k v o):=(Td.out.keep (h4.block _ Td.out.lt (λhx=>hgq hx)));have y0:w1.cell? ⟨gm,0,none⟩=some (.pointer none):=hG.cell 0;have y1:w1.cell? ⟨gm,1,none⟩=some (.int .i64 1):=hG.cell 1;have y2:w1.cell? ⟨gm,2,none⟩=some (.int .u64 k):=hG.cell 2;have y3:w1.cell? ⟨gm,3,none⟩=some (.int .u64 v):=hG.cell 3;have y4:w1.cell? ⟨gm,4,none⟩=some (.int .u64 o):=hG.cell 4;have yf:=hG.frozen 0;have yl:=hG.lt;clear h1 h2 h3 h4 hG))
   go_wp2;exact bH (v:= .tuple #[.pointer (some ⟨gm,0,none⟩), .int .i64 0]) (by simp[results,results31,go_sem]) rfl (iU.out w1 a H1.out H2.out H3.out H4.out)
 . have GN:=ag (λ(W:World) (hW:Below W1.heap.size W1 W)=>(HDE.out W (dZ.out.trans (hW.mono dZ.out.size)) rfl).mono (λe w' h=>fw.back hW h))
   clear BF HPU HDE rS g0 g4;go_wp2_with (go_at_call 20;(with_reducible refine(GN.out _ aC).mono ?_);rintro e w1 ⟨a,rfl,h1,h2,h3,h4⟩;have H1:=ag h1;have H2:=ag h2;have H3:=ag h3;have H4:=ag h4;have hG:CB w1 gm 40 (IP 2 k v o):=(Td.out.keep (h4.block _ Td.out.lt (λhx=>hgq hx)));have y0:w1.cell? ⟨gm,0,none⟩=some (.pointer none):=hG.cell 0;have y1:w1.cell? ⟨gm,1,none⟩=some (.int .i64 2):=hG.cell 1;have y2:w1.cell? ⟨gm,2,none⟩=some (.int .u64 k):=hG.cell 2;have y3:w1.cell? ⟨gm,3,none⟩=some (.int .u64 v):=hG.cell 3;have y4:w1.cell? ⟨gm,4,none⟩=some (.int .u64 o):=hG.cell 4;have yf:=hG.frozen 0;have yl:=hG.lt;clear h1 h2 h3 h4 hG)
   exact bH (v:= .tuple #[.pointer (some ⟨gm,0,none⟩), .int .i64 0]) (by simp[results,results31,go_sem]) rfl (iU.out w1 a H1.out H2.out H3.out H4.out)
 . have Sf:=ag (λ(W:World) (hW:Below W1.heap.size W1 W)=>(rS.out W (dZ.out.trans (hW.mono dZ.out.size)) rfl).mono (λe w' h=>fw.back hW h))
   clear BF HPU HDE rS g0;go_upto_region 4 with(fail)
   go_region_held3 (λw'=>w'.cell? ⟨gm,2,none⟩=some (.int .u64 k)/\w'.cell? ⟨gm,3,none⟩=some (.int .u64 v)/\w'.cell? ⟨gm,4,none⟩=some (.int .u64 o)/\gm<w'.heap.size)
    ((refine⟨?_,?_,?_,?_⟩<;>first|assumption|(go_simp;done)|(simp;omega)))
    (first|(go_at_call 21;(with_reducible refine(Sf.out _ aC).mono ?_);rintro e w1 ⟨a,rfl,h1,h2,h3,h4⟩;have H1:=ag h1;have H2:=ag h2;have H3:=ag h3;have H4:=ag h4;have hG:CB w1 gm 40 (IP 3 k v o):=(Td.out.keep (h4.block _ Td.out.lt (λhx=>hgq hx)));have y0:w1.cell? ⟨gm,0,none⟩=some (.pointer none):=hG.cell 0;have y1:w1.cell? ⟨gm,1,none⟩=some (.int .i64 3):=hG.cell 1;have y2:w1.cell? ⟨gm,2,none⟩=some (.int .u64 k):=hG.cell 2;have y3:w1.cell? ⟨gm,3,none⟩=some (.int .u64 v):=hG.cell 3;have y4:w1.cell? ⟨gm,4,none⟩=some (.int .u64 o):=hG.cell 4;have yf:=hG.frozen 0;have yl:=hG.lt;clear h1 h2 h3 h4 hG))
   go_wp2;exact bH (v:= .tuple #[.pointer (some ⟨gm,0,none⟩), .int .i64 0]) (by simp[results,results31,go_sem]) rfl (iU.out w1 a H1.out H2.out H3.out H4.out)
end
end Go.Proofs.YtjkpjakodomnmaaGreatDoor
