/- The law LtableLinear (merged). -/
import Derived.Test.YtjkpjakodomnmaaGreatDoorKuk
import Derived.Test.YtjkpjakodomnmaaGreatDoorKum
import Derived.Test.YtjkpjakodomnmaaGreatDoorKur
set_option linter.unusedVariables false
set_option linter.unusedSimpArgs false
set_option maxRecDepth 100000
set_option maxHeartbeats 16000000
namespace Go.Proofs.YtjkpjakodomnmaaGreatDoor
open Go.RowKit Go.Proofs.Tryz
theorem o_.le{κ:Nat->Nat}{p d q n lines NN N:Nat}{t:Nat->Nat}{vs:List (Int×Int)}{w:World}{σ:PwS}{xs:List Int}{L:Nat->Int}{Tr:Nat->TT}{fl:List Nat}(h:o_ κ p d q n lines NN t w vs N σ xs L Tr fl):vs.length<=NN:=by
 have:=h.Ef.ab.ct;omega
theorem vC(w:World)(hT:Tab w)(z:Int)(hz: -9223372036854775808<=z/\z<9223372036854775808)(Ac:Option Addr)(len cap:Nat)(cs:List aW)(hcs:rQ w Ac len cap cs)
 (Ap:Option Addr) (np cp:Nat) (ps:List Int) (lZ:ps.length=np) (MN:np<9223372036854775808) (FV:Rd .i64 w Ap ps) (AF:∀z∈ps,-9223372036854775808<=z/\z<9223372036854775808):
 Calls prog 7 #[.int .i64 z, .slice Ac len cap, .slice Ap np cp] w λe w'=>e= .returned (.bool true)/\Below w.heap.size w w':=by
 have BH:=ag (j8 w hT 0 ae);have GR:=ag (λ(W:World) (hW:Below w.heap.size w W)=>lD W (hT.below hW));have Ax:=ag hcs;have vZ:=ag (And.intro lZ (And.intro MN (And.intro FV AF)));have HZ:=ag hz;clear hT hcs lZ MN FV AF hz;go_enter func7,ntmps7
 go_upto_region 4 with(first
  |(go_at_call 10;(with_reducible refine BH.out.mono ?_);rintro e w1 ⟨d,p,q,n,lines,NN,t,σ,N,xs,L,Tr,fl,rfl,hl,oL,nP,hR,hN,eD⟩;have dZ:=ag eD;have HX:=ag (And.intro oL (And.intro hR hN));clear hl oL nP hR hN eD)
  |(go_at_call 11;refine(GR.out _ dZ.out).mono ?_;rintro e w2 ⟨rfl,dy⟩;have xx:=ag dy;clear dy))
 obtain⟨κ,hR,hb,hk⟩:=RS HX.out.1 HX.out.2.1 dZ.out xx.out;have hN:=HX.out.2.2;have iX:NN<=26:=by have:=hR.qu.hP;omega
 have DK:=Int.emod_nonneg z (show(NN:Int)+1≠0 by omega);have fv:=Int.emod_lt_of_pos z (show(0:Int)<(NN:Int)+1 by omega);obtain⟨m,hm⟩:∃m:Nat,z%((NN:Int)+1)=(m:Int):=⟨(z%((NN:Int)+1)).toNat,by omega⟩;have F3:m<=NN:=by omega
 have rS:=ag (kZ hR.Ef);have Hp:Hid (Calls prog 17 #[.int .i64 z, .int .i64 ((NN:Int)+1)] w2 λr w'=>r= .returned (.int .i64 (m:Int))/\w2=w'):=by have:=qq w2 z HZ.out ((NN:Int)+1) ae;rw[hm]at this;exact this
 have XF:=ag (DT hR m F3 ae);have e1:IntKind.i64.wrap ((NN:Int)+1)=(NN:Int)+1:=b9 _ ae;have HK:=ag (And.intro hb (And.intro hk (And.intro hN (And.intro iX F3))));clear HX dZ xx BH GR hR hb hk hN DK fv hm F3 iX
 go_upto_region 7 with(first
  |(go_at_call 25;(with_reducible refine rS.out.mono ?_);rintro e w' ⟨rfl,rfl⟩)
  |(go_at_call 17;(with_reducible refine Hp.out.mono ?_);rintro e w' ⟨rfl,rfl⟩)
  |(go_at_call 28;(with_reducible refine XF.out.mono ?_);rintro e w4 ⟨A4,c4,rfl,hF4⟩;have HF4:=ag hF4;clear hF4))
 obtain⟨CW,N4,σ4,xs4,L4,Tr4,fl4,zL,SU,ZK,uB,Bl,Gg⟩:=HF4.out;obtain⟨hb,hk,hN,iX,F3⟩:=HK.out;have ZcN:=hb.size;have kH:Below w.heap.size w w4:=JK hb hk Gg;have Ji:∀b,b<w.heap.size->CW b=1:=λb aM=>by rw[Bl b ae];exact hk b aM
 have Hh:=Ax.out.lf (κ:=CW) kH.size (λb aM=>⟨Ji b aM,kH.block b aM⟩);have hRp:=vZ.out.2.2.1.below kH
 have Av:Hid (Calls prog 12 #[.pointer (some ⟨q,0,none⟩), .slice Ac len cap, .slice Ap np cp, .bool true] w4 (Zb7 CW p d q n lines NN t (aY m) N4 cs w4)):=by
  have Lc:(cs.take 7).length<=7:=by rw[gf];omega
  refine uD zL Ac len cap cs (by have:=Ax.out.2.2.1;have:=Ax.out.2.1;omega) Hh Ax.out.2.2.2.2 Ap np cp ps vZ.out.1 vZ.out.2.1 hRp (λb hb aM=> ?_) vZ.out.2.2.2 ae;rcases vZ.out.2.2.1 with h|⟨b2,off,h1,h2,h3⟩
  . have:=vZ.out.1;rw[h]at this;simp at this;omega
  . rw[h1]at hb
    have:b2=b:=by simpa [ah]using hb
    rw[<-this];exact Ji b2 h2
 have lU:=ag (And.intro ZK (And.intro uB (And.intro kH Ji)));clear HF4 rS Hp XF zL SU ZK uB Bl Gg hb hk hN kH Ji Hh hRp ZcN iX F3;go_upto_region 8 with(go_at_call 12;(with_reducible refine Av.out.mono ?_);rintro e w5 ⟨Am,cm,ms,ord,Ou,N5,σ5,xs5,L5,Tr5,fl5,rfl,hR5,hM5,zM,hk5,uA,hN5⟩;have NJ:=ag hR5;have HM5:=ag (hM5.maQ zM);have HF5:=ag (And.intro zM (And.intro hk5 uA));clear hR5 hM5 zM hk5 uA hN5)
 obtain⟨zM,hk5,uA⟩:=HF5.out;obtain⟨ZK,uB,kH,Ji⟩:=lU.out;obtain⟨_,_,_,iX,F3⟩:=HK.out
 have Ej:ms.length<=7:=by
  have h1:=zM.len;have h2:(uI (cs.take 7)).length<=7:=by unfold uI;rw[vk,gf];omega
  omega
 have hV5:=NJ.out.Ef;have hle:=NJ.out.le;have jb:=zM.kd;have F7:exq NN (ms.map fp) (dY NN ms (aY m) ord) ms.length (aY m) (List.replicate ms.length false)=true:=zM.ZdC;have zL:gP w5 A4 (aY m):=Pn ZK.X5 (λ_ b hb=>(uB b hb).1) uA;generalize dY NN ms (aY m) ord=qs at hV5 hle F7;have rS:Hid (∀W,Below w5.heap.size w5 W->Calls prog 25 #[.pointer (some ⟨q,0,none⟩)] W λe w'=>e= .returned (.int .i64 (NN:Int))/\W=w'):=λW hW=>kZ (hV5.bl hW)
 have LI:Hid (∀W,Below w5.heap.size w5 W->Calls prog 14 #[.pointer (some ⟨q,0,none⟩)] W (nN qs W)):=λW hW=>CN (hV5.bl hW)
 have Sn:Hid (∀W A c,Below w5.heap.size w5 W->gP W A qs->Calls prog 26 #[.pointer (some ⟨q,0,none⟩), .slice A qs.length c] W λe w'=>e= .returned (.bool true)/\Below W.heap.size W w'):=λW A c hW hr=>zP (hV5.bl hW) A qs.length c rfl hr
 have pk:=ag (DQ w5 Am ms.length cm (ms.map fp) smQ ae HM5.out)
 have x9:Hid (∀W A6 c6 A7 c7,Below w5.heap.size w5 W->(0<ms.length->∃g off,A6=some ⟨g,off,none⟩/\Bz W g off ms.length (ms.map fp))->gP W A7 qs->Calls prog 29 #[.slice A4 m c4, .int .i64 (NN:Int), .slice A6 ms.length c6, .slice A7 qs.length c7] W λr w'=>r= .returned (.bool true)/\Below W.heap.size W w'):=λW A6 c6 A7 c7 hW h6 h7=>by
  have:=mD W NN ae A4 m c4 (aY m) (iM m) F3 (qx m) (zL.below hW) A6 ms.length c6 (ms.map fp) smQ jb ae h6 A7 qs.length c7 qs rfl ae h7;rw[F7]at this;exact this
 have lJ:Hid (Below w.heap.size w w5):=JK kH Ji uA;generalize ms.length=ml at pk x9;unfold nN at LI;unfold SnP at pk;clear zM hk5 uA ZK uB kH Ji iX F3 Ej hV5 hle F7 zL jb HF5 lU HK NJ HM5 Ax vZ HZ
 go_wp2_with (first
  |(go_at_call 25;(with_reducible refine(rS.out _ (bZ _ _)).mono ?_);rintro e w' ⟨rfl,rfl⟩)
  |(go_at_call 30;(with_reducible refine pk.out.mono ?_);rintro e w6 ⟨A6,c6,rfl,h6,Xd⟩;have HP6:=ag h6;have Oq:=ag Xd;clear h6 Xd)
  |(go_at_call 14;(with_reducible refine(LI.out _ Oq.out).mono ?_);rintro e w7 ⟨A7,c7,rfl,UE,_,Eo⟩;have HR7:=ag UE;have ZaA:=ag Eo;have AM:Hid (Below w5.heap.size w5 w7):=Oq.out.trans (Eo.mono Oq.out.size);clear UE Eo)
  |(go_at_call 29;(with_reducible refine(x9.out _ A6 c6 A7 c7 AM.out (λh0=>(by obtain⟨g,off,h1,h2⟩:=HP6.out h0;exact⟨g,off,h1,h2.bl ZaA.out⟩)) HR7.out).mono ?_);rintro e w8 ⟨rfl,Ld⟩;have V_:Hid (Below w5.heap.size w5 w8):=AM.out.trans (Ld.mono AM.out.size);clear Ld)
  |(go_at_call 14;(with_reducible refine(LI.out _ V_.out).mono ?_);rintro e w9 ⟨A9,c9,rfl,hr9,_,SQ⟩;have S9:=ag hr9;have Tf:Hid (Below w5.heap.size w5 w9):=V_.out.trans (SQ.mono V_.out.size);clear hr9 SQ)
  |(go_at_call 26;(with_reducible refine(Sn.out _ A9 c9 Tf.out S9.out).mono ?_);rintro e w10 ⟨rfl,Q5⟩;have ZaB:Hid (Below w5.heap.size w5 w10):=Tf.out.trans (Q5.mono Tf.out.size);clear Q5))
 exact bH (v:= .bool true) (by simp[results,results7,go_sem]) rfl ⟨rfl,lJ.out.trans (ZaB.out.mono lJ.out.size)⟩
end Go.Proofs.YtjkpjakodomnmaaGreatDoor
